/- Models and proofs, printed by emit2.py. -/
import Derived.Test.YtmfbghpealgaiaaGreatDoorG2
namespace Go.Proofs.YtmfbghpealgaiaaGreatDoor
open Go Go.Pw
open List renaming map_eq_nil_iff->eZ
set_option maxRecDepth 100000
set_option maxHeartbeats 10000000
set_option linter.unusedVariables false
theorem zKD {fu:Nat} {l1:List Int} {a:List Node} {b c:Int} {f:List (Int×(List (Bs×Int)))}:FF (zEo fu (fun (i:Int) (j:(List (Int×(List (Bs×Int)))))=>zA4 fu i a b c j) l1 f) 227 [.own 900000,.fn (.func 255) [] [.loc 900001 0,.loc 900002 0]] [(900000,.arr 3 1 (l1.map zAB)),(900001,.box 342 [.sl 10 false (a.map zAX),Z b,.own 900003]),(900002,.box 3 [Z c]),(900003,.mp (f.map fun p:Int×(List (Bs×Int))=>(zNz .i64 p.1,.mpd (p.2.map fun p:Bs×Int=>(zNG p.1,Z p.2)))))] [900000,900001,900002,900003] (fun r=>Z r.1) fun r=>[(900000,.arr 3 1 (l1.map zAB)),(900001,.box 342 [.sl 10 false (a.map zAX),Z b,.own 900003]),(900002,.box 3 [Z c]),(900003,.mp (r.2.map fun p:Int×(List (Bs×Int))=>(zNz .i64 p.1,.mpd (p.2.map fun p:Bs×Int=>(zNG p.1,Z p.2)))))]:=by
 refine fcI Tryz.func227 U (A [75,80,39,57,13] ?_)
 refine lw (zBS (fun (i:Int) (j:(List (Int×(List (Bs×Int)))))=>zA4 fu i a b c j) l1) [0,1,7] [900000,900001,900002] (fun (h,g)=>[(8,Z h)]) (fun (h,g)=>[(900003,.mp (g.map fun p:Int×(List (Bs×Int))=>(zNz .i64 p.1,.mpd (p.2.map fun p:Bs×Int=>(zNG p.1,Z p.2)))))]) fu (0,f) U U ?_
 rintro m ⟨h,g⟩
 refine A [75,10,2,86,59,72,62,93,38] fun l d=>?_
 refine zAr (T:=tab) zAB l1 l (zAu d) U U U U U U U U (A [43] (fun k _=>?_) zJv [(900000,900001),(900001,900002),(900002,900003)])
 refine A [0,5,2,62,8,4,94] fun e _=>?_
 exact A [89] (tx (e,k.2))
def zAq (h:Int->(List (Int×(List (Bs×Int))))->Option (Bool×(List (Int×(List (Bs×Int)))))):Nat->Int×Int×(List Int)×(List (Int×(List (Bs×Int))))->Option ((List Int)×(List (Int×(List (Bs×Int)))))
 | 0,_=>none
 | k1+1,(i8,j9,l10,l11)=>cnd (decide (j9<(l10.length:Int))) (bnd (idx l10 j9) fun b=>bnd (h b l11) fun a=>cnd (!a.1) (bnd (idx l10 i8) fun i=>bnd (rng .i64 (i8+1)) fun c=>bnd (rng .i64 (j9+1)) fun d=>(zAq h k1) (c,d,(l10.set (i8).toNat b),a.2)) (bnd (rng .i64 (j9+1)) fun e=>(zAq h k1) (i8,e,l10,a.2))) (bnd (zVu l10 i8 (0:Int)) fun f=>bnd (piece f 0 i8) fun g=>some (g,l11))
def zDB (fu:Nat) (b:Int->(List (Int×(List (Bs×Int))))->Option (Bool×(List (Int×(List (Bs×Int)))))) (l1:List Int) (d:List (Int×(List (Bs×Int)))):Option ((List Int)×(List (Int×(List (Bs×Int))))):=bnd (zEo fu b l1 d) fun a=>cnd (a.1==(-1)) (some (l1,a.2)) (bnd (rng .i64 (a.1+1)) fun c=>(zAq b) fu (a.1,c,l1,a.2))
theorem zJb {fu:Nat} {l1:List Int} {e:List Node} {f g:Int} {t:List (Int×(List (Bs×Int)))}:FF (zDB fu (fun (q:Int) (s:(List (Int×(List (Bs×Int)))))=>zA4 fu q e f g s) l1 t) 231 [.own 900000,.fn (.func 255) [] [.loc 900001 0,.loc 900002 0]] [(900000,.arr 3 1 (l1.map zAB)),(900001,.box 342 [.sl 10 false (e.map zAX),Z f,.own 900003]),(900002,.box 3 [Z g]),(900003,.mp (t.map fun p:Int×(List (Bs×Int))=>(zNz .i64 p.1,.mpd (p.2.map fun p:Bs×Int=>(zNG p.1,Z p.2)))))] [900001,900002,900003] (fun _=>.own 900000) fun r=>[(900000,.arr 3 1 (r.1.map zAB)),(900001,.box 342 [.sl 10 false (e.map zAX),Z f,.own 900003]),(900002,.box 3 [Z g]),(900003,.mp (r.2.map fun p:Int×(List (Bs×Int))=>(zNz .i64 p.1,.mpd (p.2.map fun p:Bs×Int=>(zNG p.1,Z p.2)))))]:=by
 refine fcI Tryz.func231 U (A [58,61,43] (fun u _=>?_) zKD [(900000,900000),(900001,900001),(900002,900002),(900003,900003)])
 refine A [57,6,62,5,2,62,8,68,80,16] fun v _=>?_
 refine A [57,13] ?_
 refine lq (zAq (fun (q:Int) (s:(List (Int×(List (Bs×Int)))))=>zA4 fu q e f g s)) (fun ((j,j9,a,b):Int×Int×(List Int)×(List (Int×(List (Bs×Int)))))=>[(0,.own 900000),(1,.fn (.func 255) [] [.loc 900001 0,.loc 900002 0]),(5,Z j),(6,Z j9)]) (fun ((j,j9,a,b):Int×Int×(List Int)×(List (Int×(List (Bs×Int)))))=>[(900000,.arr 3 1 (a.map zAB)),(900001,.box 342 [.sl 10 false (e.map zAX),Z f,.own 900003]),(900002,.box 3 [Z g]),(900003,.mp (b.map fun p:Int×(List (Bs×Int))=>(zNz .i64 p.1,.mpd (p.2.map fun p:Bs×Int=>(zNG p.1,Z p.2)))))]) fu (u.1,v,l1,u.2) ?_
 rintro x ⟨j,j9,a,b⟩
 refine A [6,61,39,57] ?_
 refine zAE U ?_ ?_
 ·refine A [72,61,38] fun d h=>?_
  refine zAr (T:=tab) zAB a d (zAu h) U U U U U U U U (A [57,61,43] (fun k _=>?_) zJv [(900000,900001),(900001,900002),(900002,900003)])
  refine A [57] ?_
  refine zAE U ?_ ?_
  ·refine A [93,38] fun o i=>?_
   refine zCr (T:=tab) zAB a o d (zAu i) U U U U U U U U U U U U U (A [0,14,1,16] fun l _=>?_)
   refine A [1,11,70,1,16] fun m _=>?_
   exact A [89] (tx (l,m,(a.set (j).toNat d),k.2))
  ·refine A [4,70,1,16] fun n _=>?_
   exact A [89] (tx (j,n,a,k.2))
 ·refine A [86,61] ?_
  refine zYJ (T:=tab) zAB a (0:Int) (S':=fun c=>[(900000,.arr 3 1 (c.map zAB)),(900001,.box 342 [.sl 10 false (e.map zAX),Z f,.own 900003]),(900002,.box 3 [Z g]),(900003,.mp (b.map fun p:Int×(List (Bs×Int))=>(zNz .i64 p.1,.mpd (p.2.map fun p:Bs×Int=>(zNG p.1,Z p.2)))))]) U U U U U U U U U U U U U U U U U U (fun _=>U) fun c _=>A [0,61] ?_
  exact zI4 (T:=tab) zAB c U U U U U U U U U U U fun w _=>A [57,8]
def zG4 (fu:Nat) (a:Forest) (b:Int):Option (List Int):=cnd (decide (b<0)) (some []) (cnd (decide (b>=(a.Nodes.length:Int))) (some []) (bnd (zAo fu a) fun d=>cnd (!d) (some []) (bnd (idx a.Nodes b) fun i=>bnd (zGn fu i) fun e=>cnd (!e) (some []) (bnd (zIF fu a) fun c=>bnd (zGy fu a b) fun f=>bnd (zFR fu a f) fun g=>bnd (zDB fu (fun (j:Int) (k:(List (Int×(List (Bs×Int)))))=>zA4 fu j c.Forest.Nodes c.Forest.Most b k) g c.ids) fun h=>some h.1))))
theorem zP6 {fu:Nat} {a:Forest} {b:Int}:DD (zG4 fu a b) 197 [.agg (zAD a),Z b] fun r=>.sl 1 false (r.map zAB):=by
 refine fcI Tryz.func197 U (A [73,30,3,57,6,93] ?_)
 refine zAT (j:=8) U ?_ ?_
 ·refine A [120,65,58] ?_
  exact zHL 4 (q:=.sl 1 false ([].map zAB)) U .nil rN
 ·refine A [3,35,3] ?_
  refine zAT (j:=15) U ?_ ?_
  ·refine A [113,65,58] ?_
   exact zHL 4 (q:=.sl 1 false ([].map zAB)) U .nil rN
  ·refine A [1,41] (fun c _=>?_) zA3
   refine pq 3 U (zAT (j:=20) U ?_ ?_)
   ·refine A [108,65,58] ?_
    exact zHL 4 (q:=.sl 1 false ([].map zAB)) U .nil rN
   ·refine A [3,36] fun i _=>?_
    refine A [1,41] (fun d _=>?_) zLB
    refine A [2,0] ?_
    refine zAE U ?_ ?_
    ·refine A [58] ?_
     exact zHL 4 (q:=.sl 1 false ([].map zAB)) U .nil rN
    ·refine A [67,80,43] (fun e _=>?_) zOA [(4,2300)] [2300]
     refine A [31,5,12,0,6,52,3,4,2,3,5,5,2300,3,2,53,8,0,0,0,6,15,0,63,127,203,54,2,1,64,66,68] (fun f _=>?_) zNM
     refine A [55,2,2,62,68,70,4701] (fun g _=>?_) zI9 [(1034,2350)] [2350]
     refine A [201,55,6,4,7,11,70,72,4601,4701,74,70,4701,4601] (fun h _=>?_) zJb [(900000,2350),(900001,5),(900002,3),(900003,2300)] [2350]
     exact A [201,79,34,2350,8]
def zHC (_fu:Nat) (b:State) (d:Desk) (a:List Class):Option (Class×Bool):=cnd (decide (b.Def<0)) (some ((⟨false,[],[],[],[]⟩:Class),false)) (cnd (decide (b.Def>=(d.Defs.length:Int))) (some ((⟨false,[],[],[],[]⟩:Class),false)) (bnd (idx d.Defs b.Def) fun c=>cnd (decide (c.Class<0)) (some ((⟨false,[],[],[],[]⟩:Class),false)) (cnd (decide (c.Class>=(a.length:Int))) (some ((⟨false,[],[],[],[]⟩:Class),false)) (bnd (idx a c.Class) fun e=>some (e,true)))))
theorem zNQ {fu:Nat} {c:State} {b:Desk} {a:List Class}:DD (zHC fu c b a) 24 [.agg (zBN c),.agg (zIP b),.sl 5 false (a.map zBb)] fun r=>.tup [.agg (zBb r.1),Y r.2]:=by
 refine fcI Tryz.func24 U (A [9,30,3,30,4,31,6,57,6,76] ?_)
 refine zAT (j:=12) U ?_ ?_
 ·refine A [107,65,9,20,92] ?_
  exact zFp 6 [Y false,.sl 1 false ([].map zQT),.sl 7 false ([].map cOp),.sl 7 false ([].map cOp),.sl 2 false ([].map zIf)] U ⟨.rfl,.nil,.nil,.nil,.nil,trivial⟩ U rN
 ·refine A [104,35,2,0] ?_
  refine zAE U ?_ ?_
  ·refine A [9,20,92] ?_
   exact zFp 6 [Y false,.sl 1 false ([].map zQT),.sl 7 false ([].map cOp),.sl 7 false ([].map cOp),.sl 2 false ([].map zIf)] U ⟨.rfl,.nil,.nil,.nil,.nil,trivial⟩ U rN
  ·refine A [67,76,36] fun d _=>?_
   refine A [3,0,6,93] ?_
   refine zAT (j:=30) U ?_ ?_
   ·refine A [105,65,9,20,92] ?_
    exact zFp 6 [Y false,.sl 1 false ([].map zQT),.sl 7 false ([].map cOp),.sl 7 false ([].map cOp),.sl 2 false ([].map zIf)] U ⟨.rfl,.nil,.nil,.nil,.nil,trivial⟩ U rN
   ·refine A [2,35,2,0] ?_
    refine zAE U ?_ ?_
    ·refine A [9,20,92] ?_
     exact zFp 6 [Y false,.sl 1 false ([].map zQT),.sl 7 false ([].map cOp),.sl 7 false ([].map cOp),.sl 2 false ([].map zIf)] U ⟨.rfl,.nil,.nil,.nil,.nil,trivial⟩ U rN
    ·refine A [67,61,36] fun e _=>?_
     exact A [1,92,8]
def zDH (fu:Nat) (d:Int) (e:List Node) (f:List Def) (g:List Wait) (h:Int) (i:Bool) (j:List Class) (k:List State):Option (Class×Bool):=bnd (idx k d) fun b=>bnd (zHC fu b (⟨f,g,h,i⟩:Desk) j) fun a=>cnd a.2 (cnd a.1.Form (cnd (b.Phase==3) (bnd (idx e d) fun c=>some (a.1,(c.Kind==1))) (some (a.1,false))) (some (a.1,false))) (some (a.1,false))
theorem zGY {fu:Nat} {m:Int} {c:List Node} {l:Int} {e:List Def} {f:List Wait} {g:Int} {h:Bool} {i:List Class} {d:List State} {b:List Due}:FF (zDH fu m c e f g h i d) 198 [.loc 900000 0,Z m] [(900000,.box 284 [.sl 10 false (c.map zAX),Z l,.own 900001,.sl 3 false (e.map zQC),.sl 2 false (f.map zIw),Z g,Y h,.sl 5 false (i.map zBb),.own 900002]),(900001,.arr 53 4 (d.map zBN)),(900002,.arr 171 11 (b.map zI3))] [900000,900001,900002] (fun r=>.tup [.agg (zBb r.1),Y r.2]) fun _=>[(900000,.box 284 [.sl 10 false (c.map zAX),Z l,.own 900001,.sl 3 false (e.map zQC),.sl 2 false (f.map zIw),Z g,Y h,.sl 5 false (i.map zBb),.own 900002]),(900001,.arr 53 4 (d.map zBN)),(900002,.arr 171 11 (b.map zI3))]:=by
 refine fcI Tryz.func198 U (A [9,31,4,57,9,105,38] fun j a=>?_)
 refine zAr (T:=tab) zBN d j (zAu a) U U U U U U U U (A [31,6,12,0,6,52,4,5,0,1,4,6,6,4,900000,900001,900002,53,16,0,0,2,6,14,0,32,96,224,511,1023,2047,2047,0,12287,32767,209,54,3,1,34,42,50,52] (fun n _=>?_) zNQ)
 refine vq 3 U (by kernel_rfl) (vS [] [14,15] [7] U U (zF4 (T:=tab) 7 U U U U U U U U U (pyq U)) U U (A [50,3,1,14,15,54,15,201,79,6,52,6,6,0,1,4,6,7,8,7,6,4,900000,900001,900002,53,25,0,0,2,6,14,30,62,126,254,510,1022,2046,4094,8190,16382,32766,65534,4094,262142,524286,1048574,2097150,4194302,4095,16777215,203] ?_))
 refine zBP (t:=31) U ?_ ?_
 ·refine vq 4 U (by kernel_rfl) (zBP (t:=35) U ?_ ?_)
  ·refine vq 5 U (by kernel_rfl) (zBP (t:=40) U ?_ ?_)
   ·exact vq 6 U (by kernel_rfl) (vT [80,90,92] [94] [] U U (zBE (T:=tab) zAX c U U U U U U U fun k _=>pzq U) (fun _=>U) (fun _=>U) fun k _=>A [204,50,3,1,8,9,58,9,201,79,8])
   ·exact A [211,50,3,1,8,9,58,9,201,79,8]
  ·exact A [216,50,3,1,8,9,58,9,201,79,8]
 ·exact A [220,50,3,1,8,9,58,9,201,79,8]
def zGI (a:Class):Nat->(List (Int×Hook))->Option (List (Int×Hook))
 | 0,l2=>some l2
 | k1+1,l2=>bnd (a.Hooks[k1]?) fun b=>(zGI a k1) (zGt l2 b.Kind b)
def zLM (_fu:Nat) (a:Class):Option (List (Int×Hook)):=(zGI a) a.Hooks.length ([]:(List (Int×Hook)))
theorem zSE {fu:Nat} {c:Class}:FF (zLM fu c) 60 [.agg (zBb c)] [] [] (fun _=>.own 6) fun r=>[(6,.mp (r.map fun p:Int×Hook=>(zNz .i64 p.1,.agg (zIf p.2))))]:=by
 refine fcI Tryz.func60 U (fun {w0 X X0 σ0 _}=>A [9,30,1,57,9] ?_)
 refine zHr 6 U U U U U U U (A [31,3,12,0,6,61] ?_)
 refine zLX (n:=3009) tab Tryz.func107 U U U U U U U U U U U U ⟨⟨_,U,.rfl⟩,trivial⟩ zfL U U (A [0,13] ?_)
 refine zYN (T:=tab) (enc:=zIf) (enc':=fun (a:Hook)=>.agg (zIf a)) (xs:=c.Hooks) (x0:=([]:(List (Int×Hook)))) (n:=3009) (tS:=68) (tE:=86) (tI:=3) (tB:=4) (tF:=260) (g:=170) (M:=(zGI c)) (Sf:=fun (b:(List (Int×Hook)))=>[(3,.box 138 [.own 6]),(6,.mp (b.map fun p:Int×Hook=>(zNz .i64 p.1,.agg (zIf p.2))))]) (N1:=[3]) (E0:=[(3,.loc 3 0)]) (E1:=fun d a=>[(3,.loc 3 0),(10,Z ((d:Nat):Int)),(11,.agg (zIf a)),(5,.loc 5 0)]) (S1:=fun d a (b:(List (Int×Hook)))=>[(5,.box 86 (zIf a)),(3,.box 138 [.own 6]),(6,.mp (b.map fun p:Int×Hook=>(zNz .i64 p.1,.agg (zIf p.2))))]) Tryz.func170 U U U zfO U U (fun _=>U) (fun _=>U) U U ⟨U,trivial⟩ U U ⟨U,U,trivial⟩ U U U U U U ?_ ?_ ?_
 ·rintro d a b hy w0 X X0 σ0 _ _
  refine A [31,5,12,11] ?_
  exact zPM ⟨U,U,U,U,trivial⟩ ⟨U,U,U,trivial⟩ U
 ·rintro d a b hy w0 X X0 σ0 _ _
  exact zQe hy (pq 4 U (zFo (zJ1 .i64) (fun v=>.agg (zIf v)) b a.Kind a Tryz.underlying138 Tryz.underlying3 U U U U U U U U U (A [63] (tx (zGt b a.Kind a)))))
 ·rintro b
  exact A [69,62,8]
def zFy (fu:Nat) (b:Class) (a:Int):Option Bool:=bnd (zLM fu b) fun c=>some (zLT c a)
theorem zKE {fu:Nat} {b:Class} {a:Int}:DD (zFy fu b a) 25 [.agg (zBb b),Z a] fun r=>Y r:=by
 refine fcI Tryz.func25 U (A [73,57,80,43] (fun c _=>?_) zSE [(6,2090)] [2090])
 exact pq 1 U (zHq (T:=tab) (zJ1 .i64) (fun v=>.agg (zIf v)) c a (⟨0,[]⟩:Hook) Tryz.underlying138 Tryz.underlying3 U U U U U U U U U (A [3,31,5,92,62,8]))
def zCq (fu:Nat) (e:Class) (d:Int) (c:Todo) (a:List Due):Option (List Due):=bnd (zFy fu e c.Kind) fun b=>cnd b (bnd (zDT 104 (a.length+([(⟨d,c⟩:Due)]:List Due).length)) fun _=>some (a++[(⟨d,c⟩:Due)])) (some a)
theorem zEj {fu:Nat} {f:Class} {d:Int} {e:Todo} {g:List Node} {h:Int} {i:List Def} {j:List Wait} {k:Int} {l:Bool} {b:List Class} {c:List State} {a:List Due}:FF (zCq fu f d e a) 199 [.loc 900000 0,.agg (zBb f),Z d,.agg (zKG e)] [(900000,.box 284 [.sl 10 false (g.map zAX),Z h,.own 900001,.sl 3 false (i.map zQC),.sl 2 false (j.map zIw),Z k,Y l,.sl 5 false (b.map zBb),.own 900002]),(900001,.arr 53 4 (c.map zBN)),(900002,.arr 171 11 (a.map zI3))] [900000,900001] (fun _=>.tup []) fun r=>[(900000,.box 284 [.sl 10 false (g.map zAX),Z h,.own 900001,.sl 3 false (i.map zQC),.sl 2 false (j.map zIw),Z k,Y l,.sl 5 false (b.map zBb),.own 900002]),(900001,.arr 53 4 (c.map zBN)),(900002,.arr 171 11 (r.map zI3))]:=by
 refine fcI Tryz.func199 U (A [9,30,5,30,7,0,93,41] (fun m _=>?_) zKE)
 refine ns (zAE U ?_ ?_)
 ·refine A [52,3,4,0,2,7,7,900000,900001,900002,53,13,0,0,2,6,14,0,0,96,224,510,1023,2047,4095,207,51,2,1,34,36,38] ?_
  refine vS [38] [40,41] [20] U U (pl ([(⟨d,e⟩:Due)].map zI3) 20 U U U U U U (pyq U)) U U (vU [32,40,41,1800001,1800005] [42,32,1800001,1800005] [900002] U U (pa zI3 a ([(⟨d,e⟩:Due)]:List Due) U U U U U U U U (zQR _) U U U (pyq U)) U U fun _ _=>A [202,50,4,1,42,46,1800001,1800005,1800001,19] ?_)
  exact zKM (T:=tab) U U U ⟨U,U⟩ ⟨U,U,U,trivial⟩ U
 ·exact zW9 (zKM (T:=tab) U U U ⟨U,U⟩ ⟨U,U,U,trivial⟩ U)
def zEv (fu:Nat) (a:Unit×Bool×(List Node)×Int×(List Def)×(List Wait)×Int×Bool×(List Class)×(List State)×(List Due)) (d:List Int):Nat->Int×(List Due)->Option (List Due)
 | 0,_=>none
 | k1+1,(t8,l9)=>cnd (decide (t8<(d.length:Int))) (bnd (idx d t8) fun c=>bnd (zDH fu c a.2.2.1 a.2.2.2.2.1 a.2.2.2.2.2.1 a.2.2.2.2.2.2.1 a.2.2.2.2.2.2.2.1 a.2.2.2.2.2.2.2.2.1 a.2.2.2.2.2.2.2.2.2.1) fun b=>cnd b.2 (bnd (zCq fu b.1 c (⟨7,0,[],false,false,[],[],0,0,false⟩:Todo) l9) fun g=>bnd (rng .i64 (t8+1)) fun e=>(zEv fu a d k1) (e,g)) (bnd (rng .i64 (t8+1)) fun f=>(zEv fu a d k1) (f,l9))) (some l9)
def zJq (fu:Nat) (d:Forest) (b:List State) (e:Desk) (a:List Class) (g:Int):Option (List Due):=bnd (zHZ fu d b e a) fun c=>cnd (!c.2.1) (some []) (bnd (zG4 fu d g) fun f=>(zEv fu c f) fu (0,c.2.2.2.2.2.2.2.2.2.2))
theorem zTF {fu:Nat} {i:Forest} {b:List State} {h:Desk} {a:List Class} {k:Int}:DD (zJq fu i b h a k) 132 [.agg (zAD i),.sl 4 false (b.map zBN),.agg (zIP h),.sl 5 false (a.map zBb),Z k] fun r=>.sl 11 false (r.map zI3):=by
 refine fcI Tryz.func132 U (A [9,30,5,30,7,57,76,43] (fun j _=>?_) zLz [(17,2102200),(2130,2102201),(31708,2102202)] [2102200,2102201,2102202])
 refine A [105,0,6,62] ?_
 refine zAE U ?_ ?_
 ·refine A [58] ?_
  exact zHL 10 (q:=.sl 11 false ([].map zI3)) U .nil rN
 ·refine A [68,99] (fun m _=>?_) zP6
  refine A [77,13] ?_
  refine lw (zEv fu j m) [11,29,30] [2102200,2102201] (fun (g,c)=>[(31,Z g)]) (fun (g,c)=>[(2102202,.arr 171 11 (c.map zI3))]) fu (0,j.2.2.2.2.2.2.2.2.2.2) U U ?_
  rintro o ⟨g,c⟩
  refine A [75,10,7,86,9,105,0,34,2102202,8,72,9,36] fun n _=>?_
  refine A [2,0,61,44] (fun l _=>?_) zGY [(900000,2102200),(900001,2102201),(900002,2102202)]
  refine A [3,31,15,92,58] ?_
  refine zAE U ?_ ?_
  ·refine A [14,3,20,43] (fun f _=>?_) zEj [(900000,2102200),(900001,2102201),(900002,2102202)] [2102202]
   refine A [11,94] fun d _=>?_
   exact A [89] (tx (d,f))
  ·refine A [4,94] fun e _=>?_
   exact A [89] (tx (e,c))
def zHv (fu:Nat) (g:Forest) (a:List State) (f:Desk) (b:List Class) (d:Int) (i:Bs):Option (List Due):=bnd (zHZ fu g a f b) fun c=>cnd (!c.2.1) (some []) (cnd (decide (d<0)) (some []) (cnd (decide (d>=(a.length:Int))) (some []) (bnd (zDH fu d c.2.2.1 c.2.2.2.2.1 c.2.2.2.2.2.1 c.2.2.2.2.2.2.1 c.2.2.2.2.2.2.2.1 c.2.2.2.2.2.2.2.2.1 c.2.2.2.2.2.2.2.2.2.1) fun e=>cnd e.2 (bnd (zCq fu e.1 d (⟨8,0,[],false,false,[],i,0,0,false⟩:Todo) c.2.2.2.2.2.2.2.2.2.2) fun h=>some h) (some c.2.2.2.2.2.2.2.2.2.2))))
theorem zQn {fu:Nat} {d:Forest} {b:List State} {c:Desk} {a:List Class} {e:Int} {f:Bs}:DD (zHv fu d b c a e f) 133 [.agg (zAD d),.sl 4 false (b.map zBN),.agg (zIP c),.sl 5 false (a.map zBb),Z e,O f] fun r=>.sl 11 false (r.map zI3):=by
 refine fcI Tryz.func133 U (A [9,30,6,30,8,57,76,43] (fun g _=>?_) zLz [(17,2102200),(2130,2102201),(31708,2102202)] [2102200,2102201,2102202])
 refine A [105,0,6,93] ?_
 refine zAT (j:=27) U ?_ ?_
 ·refine A [109,65,58] ?_
  exact zHL 12 (q:=.sl 11 false ([].map zI3)) U .nil rN
 ·refine pq 4 U (zAT (j:=31) U ?_ ?_)
  ·refine A [105,65,58] ?_
   exact zHL 12 (q:=.sl 11 false ([].map zI3)) U .nil rN
  ·refine A [2,35,2,0] ?_
   refine zAE U ?_ ?_
   ·refine A [58] ?_
    exact zHL 12 (q:=.sl 11 false ([].map zI3)) U .nil rN
   ·refine A [68,61,44] (fun h _=>?_) zGY [(900000,2102200),(900001,2102201),(900002,2102202)]
    refine A [3,31,15,92,58,10,7,67,9,105,0,34,2102202,8,14,104,20,43] (fun i _=>?_) zEj [(900000,2102200),(900001,2102201),(900002,2102202)] [2102202]
    exact A [0,9,105,0,34,2102202,8]
def zDo (fu:Nat) (b:Op) (a:zAR):Option (Int×Bool×zAR):=bnd (idx a.World.Forest.Nodes b.A) fun e=>cnd (b.Kind==17) (bnd (zIV fu b.S a) fun f=>some (f.1,true,f.2)) (cnd (b.Kind==18) (bnd (zJr fu a.World.Forest b.A a.World.Desk) fun i=>bnd (zCs fu (fun l=>zCx fu l a) i) fun j=>bnd (zBw fu j a) fun g=>some (g.1,true,g.2)) (cnd (b.Kind==23) (cnd (e.Kind != 1) (some (5,true,a)) (cnd (!(e.Name==([102,111,114,109]:Bs))) (some (5,true,a)) (bnd (zJq fu a.World.Forest a.World.States a.World.Desk a.World.Classes b.A) fun k=>bnd (zBw fu k a) fun h=>some (h.1,true,h.2)))) (cnd (b.Kind==24) (cnd (e.Kind != 1) (some (5,true,a)) (bnd (zHv fu a.World.Forest a.World.States a.World.Desk a.World.Classes b.A b.S) fun d=>bnd (zBw fu d a) fun c=>some (c.1,true,c.2))) (some (0,false,a)))))
theorem zP1 {fu:Nat} {b:Op} {a:zAR}:FF (zDo fu b a) 83 [.loc 900000 0,.agg (cOp b)] [(900000,.box 99 (zB6 a))] [900000] (fun r=>.tup [Z r.1,Y r.2.1]) fun r=>[(900000,.box 99 (zB6 r.2.2))]:=by
 refine fcI Tryz.func83 U (A [73,30,3,2,0,6,52,2,3,2,3,3,2,900000,53,12,0,1,3,7,15,31,0,64,255,511,0,2047,208] ?_)
 refine vT [26,30] [32] [] U U (zBE (T:=tab) zAX a.World.Forest.Nodes U U U U U U U fun f _=>pzq U) (fun _=>U) (fun _=>U) fun f _=>vq 1 U (by kernel_rfl) (vS [] [12,13] [6] U U (zF4 (T:=tab) 6 U U U U U U U U U (pyq U)) U U (A [50,3,1,12,13,34,13,79,6,62,13,62] ?_))
 refine zAE U ?_ ?_
 ·refine A [93,43] (fun g _=>?_) zOv [(900000,900000)]
  exact A [2,74]
 ·refine A [62] ?_
  refine zAE U ?_ ?_
  ·refine A [6,52,2,3,2,3,3,2,900000,53,14,0,1,3,7,15,0,32,0,128,384,896,1920,4095,8191,212,55,3,2,64,68,78,80,4801] (fun h _=>?_) zTH [(1027,2400)] [2400]
   refine A [201,79,6,52,2,3,2,7,2400,2,900000,53,7,0,0,0,6,15,31,63,203,55,6,4,5,14,84,86,4801,1800001,88,14,84,4801] (fun i _=>?_) zJI [(900000,2400),(900001,2),(900002,900000)] [2400]
   exact vT [82,88,4801,1800001] [90,88,4801,1800001] [] U U (zGN 2400 U U U (tqG (rn:=[(900000,900000)]) (ks:=[]) ⟨zEu⟩ U U U U U U U U fun e _=>pzq U)) (fun _=>U) (fun _=>U) fun e _=>A [202,79,8]
  ·refine A [62] ?_
   refine zAE U ?_ ?_
   ·refine A [6,76,26,51,4,104,65,62,8,104,0,5,2,62,8,68,52,2,3,2,3,3,2,900000,53,27,0,0,2,6,14,30,0,64,192,448,960,0,2048,6144,14336,30720,0,65536,196608,458752,983040,0,2097152,8388606,16777215,33554431,67108863,223,54,5,1,122,132,142,152,156,158] (fun j _=>?_) zTF
    refine A [55,3,2,112,158,1800001,160,1800001] (fun k _=>?_) zEu [(900000,900000)]
    exact A [202,79,8]
   ·refine A [62,10,4,4,69,62,8,6,93,0,5,2,62,8,68,52,2,3,2,3,3,2,900000,53,29,0,0,2,6,14,30,0,64,192,448,960,0,2048,6144,14336,30720,0,65536,196608,458752,983040,0,2097152,0,8388608,33554430,67108863,134217727,268435455,225,54,6,1,182,192,202,212,216,220,222] (fun c _=>?_) zQn
    refine A [55,3,2,172,222,1800001,224,1800001] (fun d _=>?_) zEu [(900000,900000)]
    exact A [202,79,8]
def zAl (_fu:Nat) (a:List Attr):Option (List Attr):=bnd (zDT 32 (([]:List Attr).length+a.length)) fun _=>some (([]:List Attr)++a)
theorem zBk {fu:Nat} {a:List Attr}:FF (zAl fu a) 102 [.sl 2 false (a.map zDY)] [] [] (fun _=>.own 5) fun r=>[(5,.arr 198 2 (r.map zDY))]:=by
 refine fcI Tryz.func102 U (A [75,80] ?_)
 refine zH3 (T:=tab) U U U U U U fun b d=>?_
 cases b
 ·refine A [0,23,67,9] ?_
  exact pl (([]:List Attr).map zDY) 5 U U U U U U (pq 1 U (pa zDY ([]:List Attr) a U U U U U U U U (zRE _) U U U (A [57,8])))
 ·have c:a=[]:=eZ.1 (d rfl)
  exact zKO (m':=some ([]:List Attr)) (by subst c;rfl) (A [0,25,58,56,5,198,2,2,8])
def zAm (_fu:Nat) (a:List Node):Option (List Node):=bnd (zDT 136 (([]:List Node).length+a.length)) fun _=>some (([]:List Node)++a)
theorem zBl {fu:Nat} {a:List Node}:FF (zAm fu a) 153 [.sl 10 false (a.map zAX)] [] [] (fun _=>.own 5) fun r=>[(5,.arr 77 10 (r.map zAX))]:=by
 refine fcI Tryz.func153 U (A [75,80] ?_)
 refine zH3 (T:=tab) U U U U U U fun b d=>?_
 cases b
 ·refine A [0,23,67,9] ?_
  exact pl (([]:List Node).map zAX) 5 U U U U U U (pq 1 U (pa zAX ([]:List Node) a U U U U U U U U (zOQ _) U U U (A [57,8])))
 ·have c:a=[]:=eZ.1 (d rfl)
  exact zKO (m':=some ([]:List Node)) (by subst c;rfl) (A [0,25,58,56,5,77,10,2,8])
def zJ9 (fu:Nat) (a:Forest) (b c:Node) (d:Int):Option (Forest×Int×Int):=bnd (zAl fu b.Attrs) fun f=>bnd (zCz fu (⟨a⟩:zAL)) fun h=>cnd (!h) (some (a,(-1),1)) (bnd (zGE fu ({c with Name:=b.Name,Is:=b.Is,Data:=b.Data,Attrs:=f,Doc:=d}:Node)) fun i=>cnd (!i) (some (a,(-1),1)) (cnd (c.Kind==4) (some (a,(-1),1)) (cnd (c.Kind != 0) (bnd (zDN fu (⟨a⟩:zAL) d 0) fun j=>cnd (!j) (some (a,(-1),1)) (cnd ((a.Nodes.length:Int)==a.Most) (some (a,(-1),8)) (bnd (zAm fu a.Nodes) fun g=>bnd (zDT 136 (g.length+([({c with Name:=b.Name,Is:=b.Is,Data:=b.Data,Attrs:=f,Doc:=d}:Node)]:List Node).length)) fun _=>some ((⟨(g++[({c with Name:=b.Name,Is:=b.Is,Data:=b.Data,Attrs:=f,Doc:=d}:Node)]),a.Most⟩:Forest),(a.Nodes.length:Int),0)))) (cnd ((a.Nodes.length:Int)==a.Most) (some (a,(-1),8)) (bnd (zAm fu a.Nodes) fun e=>bnd (zDT 136 (e.length+([({c with Name:=b.Name,Is:=b.Is,Data:=b.Data,Attrs:=f,Doc:=d}:Node)]:List Node).length)) fun _=>some ((⟨(e++[({c with Name:=b.Name,Is:=b.Is,Data:=b.Data,Attrs:=f,Doc:=d}:Node)]),a.Most⟩:Forest),(a.Nodes.length:Int),0))))))
def zGx (fu:Nat) (b:Forest) (a:Node):Option (Forest×Int×Int):=bnd (zK7 fu a.Kind a.Doc) fun c=>cnd (a.Kind==0) ((zJ9 fu b a c) (b.Nodes.length:Int)) ((zJ9 fu b a c) c.Doc)
theorem zHw {fu:Nat} {e:Forest} {a:Node}:DD (zGx fu e a) 200 [.agg (zAD e),.agg (zAX a)] fun r=>.tup [.agg (zAD r.1),Z r.2.1,Z r.2.2]:=by
 refine fcI Tryz.func200 U (A [73,30,3,31,4,2,0,61,77,76,41] (fun b _=>?_) zNN)
 refine A [31,8,12,0,6,93,0] ?_
 refine jw (zJ9 fu e a b) [2,3,4,7,8] [4,3,2] (fun _=>[]) (fun c=>[(8,.box 77 [Z b.Kind,O b.Name,O b.Is,O b.Data,.sl 2 false (b.Attrs.map zDY),Z b.Parent,.sl 1 false (b.Kids.map zAB),Z b.Host,Z b.Under,Z c])]) U U ?_ fun d=>?_
 ·rintro c
  refine A [7,6,52,5,4,2,3,4,7,8,8,4,3,2,53,17,0,1,0,4,0,16,0,64,192,3,963,1999,4047,8191,16383,32767,65535,208,55,1,2,60,62,4621] (fun f _=>?_) zBk [(5,2310)] [2310]
  refine A [201,50,3,1,17,48,64,17,201,50,3,1,17,52,66,17,201,50,3,1,17,56,68,17,201,50,4,1,17,62,70,4621,17,79,80,20,31,9,12,0,6,13,80,41] (fun i _=>?_) zF7
  refine A [2,26,42,6,122,65,80,12,2,74,1,33,2310,41] (fun k _=>?_) zL1
  refine A [3,26,47,6,117,65,80,12,2,74,105,26,52,6,112,65,80,12,2,74,104] ?_
  refine zAT (j:=56) U ?_ ?_
  ·refine A [3,41] (fun l _=>?_) zFu
   refine A [104,0,5,4,80,12,2,74,9,105,0,5,4,80,12,2,74,4,69,6,52,4,3,2,4,7,8,8,4,2,53,8,0,1,3,0,8,31,63,127,202,55,1,2,144,146,5461] (fun h _=>?_) zBl [(5,2730)] [2730]
   exact vq 1 U (by kernel_rfl) (vS [148] [150,151] [75] U U (pl ([({b with Name:=a.Name,Is:=a.Is,Data:=a.Data,Attrs:=f,Doc:=c}:Node)].map zAX) 75 U U U U U U (pyq U)) U U (vU [146,150,151,5461] [152,146,5461] [2730] U U (pa zAX h ([({b with Name:=a.Name,Is:=a.Is,Data:=a.Data,Attrs:=f,Doc:=c}:Node)]:List Node) U U U U U U U U (zOQ _) U U U (pyq U)) U U fun _ _=>A [201,50,4,1,5,152,154,5461,5,79,61,12,2,0,34,2730,8]))
  ·refine A [108,11,24,9,105,0,5,4,80,12,2,74,4,69,6,52,4,3,2,4,7,8,8,4,2,53,8,0,1,3,0,8,31,63,127,202,55,1,2,144,146,5461] (fun g _=>?_) zBl [(5,2730)] [2730]
   exact vq 1 U (by kernel_rfl) (vS [148] [150,151] [75] U U (pl ([({b with Name:=a.Name,Is:=a.Is,Data:=a.Data,Attrs:=f,Doc:=c}:Node)].map zAX) 75 U U U U U U (pyq U)) U U (vU [146,150,151,5461] [152,146,5461] [2730] U U (pa zAX g ([({b with Name:=a.Name,Is:=a.Is,Data:=a.Data,Attrs:=f,Doc:=c}:Node)]:List Node) U U U U U U U U (zOQ _) U U U (pyq U)) U U fun _ _=>A [201,50,4,1,5,152,154,5461,5,79,61,12,2,0,34,2730,8]))
 ·refine zAE U ?_ ?_
  ·exact A [14,2,12,11,45] (d (e.Nodes.length:Int))
  ·exact A [4,45] (d b.Doc)
def zGO (fu:Nat) (a:Node) (b:zAR):Option (zCZ×zAR):=bnd (idx b.World.Forest.Nodes a.Doc) fun k=>cnd (k.Kind != 0) (some ((⟨(⟨[],0⟩:Forest),[],5⟩:zCZ),b)) (bnd (zFw fu a.Name) fun g=>cnd (a.Kind==1) (cnd (g.2 != 0) (some ((⟨(⟨[],0⟩:Forest),[],4⟩:zCZ),b)) (cnd (!(a.Is==([]:Bs))) (bnd (zC9 fu a.Is) fun h=>cnd (!h) (some ((⟨(⟨[],0⟩:Forest),[],4⟩:zCZ),b)) (bnd (zEr fu a.Name) fun i=>bnd (zGx fu b.World.Forest ({a with Name:=i}:Node)) fun e=>some ((⟨e.1,[],e.2.2⟩:zCZ),(⟨b.World,e.2.1⟩:zAR)))) (bnd (zEr fu a.Name) fun j=>bnd (zGx fu b.World.Forest ({a with Name:=j}:Node)) fun f=>some ((⟨f.1,[],f.2.2⟩:zCZ),(⟨b.World,f.2.1⟩:zAR))))) (bnd (zEr fu a.Name) fun d=>bnd (zGx fu b.World.Forest ({a with Name:=d}:Node)) fun c=>some ((⟨c.1,[],c.2.2⟩:zCZ),(⟨b.World,c.2.1⟩:zAR))))
theorem zHX {fu:Nat} {e:Node} {b:zAR}:FF (zGO fu e b) 134 [.loc 900000 0,.agg (zAX e)] [(900000,.box 99 (zB6 b))] [900000] (fun r=>.agg (zMc r.1)) fun r=>[(900000,.box 99 (zB6 r.2))]:=by
 refine fcI Tryz.func134 U (A [9,30,3,31,4,0,6,6,52,3,3,0,3,4,4,3,900000,53,12,0,1,3,7,15,31,0,64,255,511,1023,2047,208] ?_)
 refine vT [30,34] [36] [] U U (zBE (T:=tab) zAX b.World.Forest.Nodes U U U U U U U fun g _=>pzq U) (fun _=>U) (fun _=>U) fun g _=>A [203,79] ?_
 refine zAE U ?_ ?_
 ·refine A [9,20,12,0] ?_
  exact zFp 4 [.sl 10 false ([].map zAX),Z 0,.sl 9 false ([].map zBG),Z 5] U ⟨.nil,.rfl,.nil,.rfl,trivial⟩ U rN
 ·refine A [67,99] (fun h _=>?_) zHd
  refine A [105,0,6,76] ?_
  refine zAT (j:=32) U ?_ ?_
  ·refine pq 3 U (zAT (j:=35) U ?_ ?_)
   ·refine A [111,65,9,20,12,0] ?_
    exact zFp 4 [.sl 10 false ([].map zAX),Z 0,.sl 9 false ([].map zBG),Z 4] U ⟨.nil,.rfl,.nil,.rfl,trivial⟩ U rN
   ·refine pq 4 U (zAT (j:=39) U ?_ ?_)
    ·refine A [2,41] (fun i _=>?_) zEa
     refine A [104,0] ?_
     refine zAE U ?_ ?_
     ·refine A [9,20,12,0] ?_
      exact zFp 4 [.sl 10 false ([].map zAX),Z 0,.sl 9 false ([].map zBG),Z 4] U ⟨.nil,.rfl,.nil,.rfl,trivial⟩ U rN
     ·refine A [67,99] (fun k _=>?_) zG2
      refine A [1,12,0,6,88,206,54,2,1,114,116,118] (fun c _=>?_) zHw
      refine vq 4 U (by kernel_rfl) (vS [] [14,15] [7] U U (zF4 (T:=tab) 7 U U U U U U U U U (pyq U)) U U (A [50,3,1,14,15,120,15,202,79,76,12,0,61,20,12,0] ?_))
      exact zFp 4 [.sl 10 false (c.1.Nodes.map zAX),Z c.1.Most,.sl 9 false ([].map zBG),Z c.2.2] U ⟨.rfl,.rfl,.nil,.rfl,trivial⟩ U rN
    ·refine A [107,11,24,67,99] (fun l _=>?_) zG2
     refine A [1,12,0,6,88,206,54,2,1,114,116,118] (fun d _=>?_) zHw
     refine vq 4 U (by kernel_rfl) (vS [] [14,15] [7] U U (zF4 (T:=tab) 7 U U U U U U U U U (pyq U)) U U (A [50,3,1,14,15,120,15,202,79,76,12,0,61,20,12,0] ?_))
     exact zFp 4 [.sl 10 false (d.1.Nodes.map zAX),Z d.1.Most,.sl 9 false ([].map zBG),Z d.2.2] U ⟨.rfl,.rfl,.nil,.rfl,trivial⟩ U rN
  ·refine A [114,11,24,67,99] (fun f _=>?_) zG2
   refine A [1,12,0,6,88,206,54,2,1,114,116,118] (fun a _=>?_) zHw
   refine vq 4 U (by kernel_rfl) (vS [] [14,15] [7] U U (zF4 (T:=tab) 7 U U U U U U U U U (pyq U)) U U (A [50,3,1,14,15,120,15,202,79,76,12,0,61,20,12,0] ?_))
   exact zFp 4 [.sl 10 false (a.1.Nodes.map zAX),Z a.1.Most,.sl 9 false ([].map zBG),Z a.2.2] U ⟨.rfl,.rfl,.nil,.rfl,trivial⟩ U rN
def zOD (_fu:Nat):Option (List Bs):=some [[100,105,118],[112],[115,112,97,110]]
theorem zSC {fu:Nat}:DD (zOD fu) 201 [] fun r=>.sl 1 false (r.map zQT):=by
 refine fcI Tryz.func201 U (A [58,9] ?_)
 exact pl ([[100,105,118],[112],[115,112,97,110]].map zQT) 1 U U U U U U (A [57,34,1,8])
def zJH (fu:Nat) (a:Forest) (b:Int) (c:Node) (f:Unit):Option (Forest×Int×Int):=cnd (c.Under != (-1)) (some (a,(-1),10)) (cnd ((a.Nodes.length:Int)==a.Most) (some (a,(-1),8)) (bnd (zAm fu a.Nodes) fun d=>bnd (zDT 136 (d.length+([(⟨4,[],[],[],[],(-1),[],b,(-1),c.Doc⟩:Node)]:List Node).length)) fun _=>bnd (idx (d++[(⟨4,[],[],[],[],(-1),[],b,(-1),c.Doc⟩:Node)]) b) fun e=>some ((⟨((d++[(⟨4,[],[],[],[],(-1),[],b,(-1),c.Doc⟩:Node)]).set (b).toNat ({e with Under:=(a.Nodes.length:Int)}:Node)),a.Most⟩:Forest),(a.Nodes.length:Int),0)))
def zNP (fu:Nat) (a:Forest) (c:Int):Option (Forest×Int×Int):=bnd (zB9 fu a [c]) fun d=>cnd (!d) (some (a,(-1),1)) (bnd (idx a.Nodes c) fun b=>cnd (b.Kind != 1) (some (a,(-1),5)) (bnd (zC9 fu b.Name) fun e=>cnd (!e) (bnd (zOD fu) fun f=>bnd (zA5 fu f b.Name) fun g=>cnd (!g) (some (a,(-1),5)) ((zJH fu a c b) ())) ((zJH fu a c b) ())))
theorem zQ2 {fu:Nat} {c:Forest} {a:Int}:DD (zNP fu c a) 135 [.agg (zAD c),Z a] fun r=>.tup [.agg (zAD r.1),Z r.2.1,Z r.2.2]:=by
 refine fcI Tryz.func135 U (A [73,31,4,2,0,6,61] ?_)
 refine pl ([a].map zAB) 11 U U U U U U (A [33,11,41] (fun i _=>?_) zHy)
 refine A [57,5,4,80,12,2,74,67,93,36] fun b _=>?_
 refine A [1,31,7,12,0,6,13,6,52,4,3,1,2,4,7,7,4,2,53,17,0,1,3,7,15,31,63,127,255,511,511,1535,4095,8191,16383,32767,65535] ?_
 refine zbY (zJH fu c a b) (fun (_:Unit)=>[(1,Z a),(2,.loc 2 0),(4,.loc 4 0),(7,.loc 7 0)]) (fun (_:Unit)=>[(7,.box 77 (zAX b)),(4,.box 24 [.v (.slice none 0 0),Z 0]),(2,.box 24 (zAD c))]) ?_ fun d=>?_
 ·rintro _
  refine A [76,0,5,4,80,12,2,74,61,35,104,0,5,4,80,12,2,74,4,69,61,77,6,52,5,3,1,2,4,7,8,7,4,2,53,11,0,1,3,0,0,16,56,120,255,511,1023,202,55,1,2,110,112,5121] (fun g _=>?_) zBl [(5,2560)] [2560]
  refine A [203,51,2,1,114,118,120] ?_
  refine vS [120] [122,120,123] [61] U U (zbd 60 U (.agg (ds:=[Z 4,O [],O [],O [],.sl 2 false ([].map zDY),Z (-1),.sl 1 false ([].map zAB),Z a,Z (-1),Z b.Doc]) ⟨.rfl,.rfl,.rfl,.rfl,.nil,.rfl,.nil,.rfl,.rfl,.rfl,trivial⟩) (pl ([(⟨4,[],[],[],[],(-1),[],a,(-1),b.Doc⟩:Node)].map zAX) 61 U U U U U U (pyq U))) U U (vU [112,122,123,5121] [124,112,5121] [2560] U U (pa zAX g ([(⟨4,[],[],[],[],(-1),[],a,(-1),b.Doc⟩:Node)]:List Node) U U U U U U U U (zOQ _) U U U (pyq U)) U U fun _ _=>A [201,50,4,1,5,124,126,5121,5,79,76,38] fun h e=>?_)
  exact pq 1 U (zCr (T:=tab) zAX (g++[(⟨4,[],[],[],[],(-1),[],a,(-1),b.Doc⟩:Node)]) h ({h with Under:=(c.Nodes.length:Int)}:Node) (zAu e) U U U U U U U U U U U U U (A [0,61,12,2,0,34,2560,8]))
 ·refine vq 4 U (by kernel_rfl) (zBP (t:=24) U ?_ ?_)
  ·exact A [213,19,18,80,12,2,74]
  ·refine A [202,54,2,1,48,52,54] (fun j _=>?_) zEa
   refine vq 2 U (by kernel_rfl) (zBP (t:=29) U ?_ ?_)
   ·refine vT [58] [60] [] U U (zKN (enc:=fun (f:(List Bs))=>.sl 1 false (f.map zQT)) (qs:=[]) zSC U U trivial (fun _=>U) zfS U U fun f _=>pzq U) (fun _=>U) (fun _=>U) fun f _=>A [202,54,3,1,58,60,64,66] (fun k _=>?_) zDA
    refine A [204,79,5,4,80,12,2,74] ?_
    exact zXA (d ()) ⟨U,U,U,U,trivial⟩ ⟨U,U,U,trivial⟩ U
   ·refine A [208,19,24] ?_
    exact zXA (d ()) ⟨U,U,U,U,trivial⟩ ⟨U,U,U,trivial⟩ U
def zGG (_fu:Nat) (a:Int) (b:Forest):Option Bool:=cnd (decide (a<0)) (some true) (some (decide (a>=(b.Nodes.length:Int))))
theorem zQ7 {fu:Nat} {b:Int} {a:Forest}:FF (zGG fu b a) 257 [Z b,.loc 900000 0] [(900000,.box 24 (zAD a))] [900000] (fun r=>Y r) fun _=>[(900000,.box 24 (zAD a))]:=by
 exact fcI Tryz.func257 U (A [58,93,26,6,2,107,74,3,35,3,74])
theorem zJf {fu:Nat} {b:List Int} {a:Forest}:FF (zAS fu (fun c=>zGG fu c a) b) 227 [.sl 1 false (b.map zAB),.fn (.func 257) [] [.loc 900000 0]] [(900000,.box 24 (zAD a))] [900000] (fun r=>Z r) fun _=>[(900000,.box 24 (zAD a))]:=by
 refine fcI Tryz.func227 U (A [75,80,77,13] ?_)
 refine lw (zAH (fun c=>zGG fu c a) b) [0,1,7] [900000] (fun d=>[(8,Z d)]) (fun _=>[]) fu 0 U U ?_
 rintro f d
 refine A [75,10,2,86,59,72,62,93,36] fun h _=>?_
 refine A [1,44] (fun g _=>?_) zQ7 [(900000,900000)]
 refine A [0,5,2,62,8,4,94] fun e _=>?_
 exact A [89] (tx e)
theorem zIb {fu:Nat} {b:List Int} {a:Forest}:FF (zAc fu (fun c=>zGG fu c a) b) 156 [.sl 1 false (b.map zAB),.fn (.func 257) [] [.loc 900000 0]] [(900000,.box 24 (zAD a))] [900000] (fun r=>Y r) fun _=>[(900000,.box 24 (zAD a))]:=by
 refine fcI Tryz.func156 U (A [58,61,44] (fun d _=>?_) zJf [(900000,900000)])
 exact A [2,74]
def zGr (fu:Nat) (a:Forest) (l2:List Int):Option Bool:=bnd (zAo fu a) fun b=>cnd b (bnd (zAc fu (fun d=>zGG fu d a) l2) fun c=>some (!c)) (some false)
theorem zHB {fu:Nat} {a:Forest} {l2:List Int}:DD (zGr fu a l2) 202 [.agg (zAD a),.sl 1 false (l2.map zAB)] fun r=>Y r:=by
 refine fcI Tryz.func202 U (A [73,57,80,41] (fun b _=>?_) zA3)
 refine A [1,27,7,2,106,74,2,44] (fun c _=>?_) zIb [(900000,2)]
 exact A [3,74]
def zO1 (fu:Nat) (b:Forest) (a:Int):Option Bool:=bnd (zGr fu b [a]) fun c=>cnd c (bnd (idx b.Nodes a) fun d=>some (d.Kind==0)) (some false)
theorem zQ6 {fu:Nat} {b:Forest} {a:Int}:DD (zO1 fu b a) 203 [.agg (zAD b),Z a] fun r=>Y r:=by
 refine fcI Tryz.func203 U (A [73,57,61] ?_)
 refine pl ([a].map zAB) 7 U U U U U U (A [33,7,41] (fun c _=>?_) zHB)
 refine A [1,27,9,2,109,74,3,36] fun d _=>?_
 exact A [105,74]
def zKa (_fu:Nat) (c:Int) (d e f:Bs) (g:List Attr) (h i j k:Int) (a:List (Node×Bool)):Option (Int×(List (Node×Bool))):=bnd (zDT 136 (a.length+1)) fun _=>bnd (rng .i64 ((((a++[((⟨c,d,e,f,g,h,[],i,j,k⟩:Node),true)]).length:Nat):Int) - 1)) fun b=>some (b,(a++[((⟨c,d,e,f,g,h,[],i,j,k⟩:Node),true)]))
theorem zOF {fu:Nat} {b:Int} {c d e:Bs} {f:List Attr} {g h i j k:Int} {m:Bool} {a:List (Node×Bool)}:FF (zKa fu b c d e f g h i j a) 281 [.loc 900000 0,.agg [Z b,O c,O d,O e,.sl 2 false (f.map zDY),Z g,.v (.slice none 0 0),Z h,Z i,Z j]] [(900000,.box 288 [.own 900001,Z k,Y m]),(900001,.tre 77 10 6 3 (a.map nB))] [900000] (fun r=>Z r.1) fun r=>[(900000,.box 288 [.own 900001,Z k,Y m]),(900001,.tre 77 10 6 3 (r.2.map nB))]:=by
 refine fcI Tryz.func281 U (A [9,30,3,57,6,52,2,3,0,3,3,900000,900001,53,13,0,0,2,6,14,30,0,64,254,511,1023,2047,4095,207] ?_)
 refine vS [22] [24,25] [12] U U (pl ([[Z b,O c,O d,O e,.sl 2 false (f.map zDY),Z g,.v (.slice none 0 0),Z h,Z i,Z j]]) 12 U U U U U U (pyq U)) U U (vU [20,24,25,1800001,1800003] [26,20,1800001,1800003] [900001] U U (zT5 (T:=tab) a.length [Z b,O c,O d,O e,.sl 2 false (f.map zDY),Z g,.v (.slice none 0 0),Z h,Z i,Z j] (zAX (⟨b,c,d,e,f,g,[],h,i,j⟩:Node),true) 1 (by simp) (zco (nB) a ((⟨b,c,d,e,f,g,[],h,i,j⟩:Node),true)) (.inr ⟨U,U,U⟩) U U U U U U U U U U U U U U U U U U U U (pyq U)) U U fun _ _=>A [203,50,4,1,26,32,1800001,1800003,1800001,79,9,105] ?_)
 refine zMq (T:=tab) (l:=(a++[((⟨b,c,d,e,f,g,[],h,i,j⟩:Node),true)]).length) U U U U U U U (by simp) U U (A [16] fun n _=>?_)
 exact A [57,8]
def zEQ (fu:Nat) (j1:zCt) (e:List (Node×Bool)) (d:Node×Bool) (f:List Attr) (g:Int×Int):Option (Int×Int×(List (Node×Bool))):=match g with
 | (c7,c)=>bnd (zKa fu c7 d.1.Name d.1.Is d.1.Data f j1.under (-1) (-1) c e) fun b=>cnd (j1.under != (-1)) (bnd (idx b.2 j1.under) fun a=>bnd (zT0 a.2) fun _=>bnd (zDT 8 (a.1.Kids.length+([b.1]:List Int).length)) fun _=>bnd (idx b.2 j1.under) fun h=>some (b.1,c,(b.2.set (j1.under).toNat (({a.1 with Kids:=(a.1.Kids++[b.1])}:Node),true)))) (some (b.1,c,b.2))
def zIm (fu:Nat) (j1:zCt) (b:List (Node×Bool)):Option (Int×Int×(List (Node×Bool))):=bnd (idx b j1.n) fun a=>bnd (zSU a.2) fun _=>bnd (zAl fu a.1.Attrs) fun c=>cnd (a.1.Kind==0) ((zEQ fu j1 b a c) (a.1.Kind,(b.length:Int))) (cnd (a.1.Kind==4) ((zEQ fu j1 b a c) (3,j1.doc)) ((zEQ fu j1 b a c) (a.1.Kind,j1.doc)))
theorem zMI {fu:Nat} {j1:zCt} {k:Int} {m:Bool} {g:List (Node×Bool)}:FF (zIm fu j1 g) 259 [.loc 900000 0,.agg (zGJ j1)] [(900000,.box 288 [.own 900001,Z k,Y m]),(900001,.tre 77 10 6 3 (g.map nB))] [900000] (fun r=>.tup [Z r.1,Z r.2.1]) fun r=>[(900000,.box 288 [.own 900001,Z k,Y m]),(900001,.tre 77 10 6 3 (r.2.2.map nB))]:=by
 refine fcI Tryz.func259 U (A [9,30,3,2,0,6,52,2,3,0,3,3,900000,900001,53,11,0,1,3,7,15,0,32,127,255,0,1023,207] ?_)
 refine vT [26,30,1800003] [32] [] U U (zBT (T:=tab) g (by simp) U U U U U U U U fun e h=>pzq U) (fun _=>U) (fun _=>U) fun e h=>vU [32,1800003] [34] [] U U (zNv (T:=tab) (zHN (f:=nB) (zAu h)) U U U U U U U U (pyq U)) U U fun _ _=>vS [] [12,13] [6] U U (zF4 (T:=tab) 6 U U U U U U U U U (pyq U)) U U (A [50,3,1,12,13,34,13,79,6,52,3,4,0,3,6,6,3,900000,900001,53,18,0,1,0,4,0,16,0,64,0,256,768,0,2048,0,8192,32767,0,131071,210,55,1,2,54,56,4561] (fun p _=>?_) zBk [(5,2280)] [2280])
 refine A [204,51,8,1,38,42,46,50,56,60,64,4561,66] ?_
 refine vS [] [14,15] [7] U U (zF4 (T:=tab) 7 U U U U U U U U U (pyq U)) U U (A [50,4,1,14,15,66,4561,15,79,6,62] ?_)
 refine jw (zEQ fu j1 g e p) [0,3,7] [2280,3,900000,900001] (fun _=>[]) (fun (n,o)=>[(7,.box 77 [Z n,O e.1.Name,O e.1.Is,O e.1.Data,.own 2280,Z j1.under,.v (.slice none 0 0),Z (-1),Z (-1),Z o])]) U U ?_ fun d=>?_
 ·rintro ⟨n,o⟩
  refine A [7,61,33,2280,43] (fun i _=>?_) zOF [(900000,900000),(900001,900001)] [900001]
  refine A [57,6,93,0,10,19,68,52,2,3,7,8,7,900000,900001,53,5,0,0,2,1,15,205,79,8,52,4,4,0,3,7,8,900000,900001,7,3,53,23,0,1,3,7,15,0,32,0,128,384,896,1920,0,4096,16256,32640,65408,0,131072,524160,1048575,2097151,4194303,214] ?_
  exact vT [130,134,1800003] [136] [] U U (zBT (T:=tab) i.2 (by simp) U U U U U U U U fun a b=>pzq U) (fun _=>U) (fun _=>U) fun a b=>vq 1 U (by kernel_rfl) (vU [138,1800003] [140,1800003,1400141] [700070] U U (zT9 (T:=tab) 700070 (zHN (f:=nB) (zAu b)) U U U U U U U U U U U U U U U (pyq U)) U U fun _ _=>vq 1 U (by kernel_rfl) (vS [142] [144,145] [72] U U (pl ([i.1].map zAB) 72 U U U U U U (pyq U)) U U (vU [140,144,145,1400141,1800003] [146,140,1400141,1800003] [700070] U U (pa zAB a.1.Kids ([i.1]:List Int) U U U U U U U U (zDF _) U U U (pyq U)) U U fun _ _=>vT [116,120,1800003] [148] [] U U (zPN (T:=tab) i.2 (by simp) U U U U U U U U fun j c=>pzq U) (fun _=>U) (fun _=>U) fun j c=>vq 1 U (by kernel_rfl) (vS [146,150,1400141,1800003] [146,1400141,1800003] [] U U (zbi 900001 U U (zT6 (T:=tab) (zWo (zAu c)) (zTk (f:=nB) ((({a.1 with Kids:=(a.1.Kids++[i.1])}:Node),true):Node×Bool) (by rfl)) U U U U U U U U U U U (pyq U))) U U (A [79,6,52,2,3,7,8,7,900000,900001,53,5,0,0,2,1,15,205,79,8])))))
 ·refine A [13,62] ?_
  refine zAE U ?_ ?_
  ·refine A [14,105] ?_
   exact zMq (T:=tab) (l:=g.length) U U U U U U U (by simp) U U (A [1,12,11,15,45] (d (e.1.Kind,(g.length:Int))))
  ·refine A [62] ?_
   refine zAE U ?_ ?_
   ·exact A [14,1,12,11,15,45] (d (3,j1.doc))
   ·exact A [4,15,45] (d (e.1.Kind,j1.doc))
def zHA (a:Int×Int×(List (Node×Bool))) (c:Node×Bool) (b:((List zCt)×(List (Node×Bool)))->Option (Int×(List (Node×Bool)))):Nat->(List zCt)->Option (Int×(List (Node×Bool)))
 | 0,l13=>b (l13,a.2.2)
 | k2+1,l13=>bnd (c.1.Kids[k2]?) fun d=>bnd (zDT 24 (l13.length+([(⟨d,a.2.1,a.1⟩:zCt)]:List zCt).length)) fun _=>(zHA a c b k2) (l13++[(⟨d,a.2.1,a.1⟩:zCt)])
def zFZ (fu:Nat) (e:Bool) (d:List (Node×Bool)):Nat->(List zCt)×(List (Node×Bool))->Option (Int×(List (Node×Bool)))
 | 0,_=>none
 | k1+1,(l5,l6)=>cnd (decide ((l5.length:Int)>0)) (bnd (rng .i64 ((l5.length:Int) - 1)) fun g=>bnd (idx l5 g) fun f=>bnd (rng .i64 ((l5.length:Int) - 1)) fun h=>bnd (piece l5 0 h) fun c=>bnd (zIm fu f l6) fun a=>cnd (!e) (some ((d.length:Int),a.2.2)) (bnd (idx a.2.2 f.n) fun b=>bnd (zSU b.2) fun _=>(zHA a b (zFZ fu e d k1)) b.1.Kids.length c)) (some ((d.length:Int),l6))
def zKb (fu:Nat) (a:zCt) (c:Bool) (b:List (Node×Bool)):Option (Int×(List (Node×Bool))):=(zFZ fu c b) fu ([a],b)
theorem zOG {fu:Nat} {b:zCt} {m:Int} {j:Bool} {h:List (Node×Bool)}:FF (zKb fu b j h) 205 [.loc 900000 0,.agg (zGJ b)] [(900000,.box 288 [.own 900001,Z m,Y j]),(900001,.tre 77 10 6 3 (h.map nB))] [900000] (fun r=>Z r.1) fun r=>[(900000,.box 288 [.own 900001,Z m,Y j]),(900001,.tre 77 10 6 3 (r.2.map nB))]:=by
 refine fcI Tryz.func205 U (fun {w0 X X0 σ0 _}=>A [9,30,3,57,9,105] ?_)
 refine zMq (T:=tab) (l:=h.length) U U U U U U U (by simp) U U (A [57,6,80] ?_)
 refine pl ([b].map zGJ) 19 U U U U U U (A [31,6,12,0,13] ?_)
 refine lw (zFZ fu j h) [0,5,6] [6,900000] (fun _=>[]) (fun (k,s)=>[(19,.arr 291 3 (k.map zGJ)),(900001,.tre 77 10 6 3 (s.map nB))]) fu ([b],h) U U ?_
 rintro t ⟨k,s⟩
 refine A [6,80,39,57,10,3,86,62,8,72,61,39,16] fun v _=>?_
 refine A [38] fun u o=>?_
 refine zAr (T:=tab) zGJ k u (zAu o) U U U U U U U U (A [31,7,12,0,61,39,16] fun w _=>?_)
 refine zI4 (T:=tab) zGJ k U U U U U U U U U U U fun q _=>A [12,0,61,43] (fun a _=>?_) zMI [(900000,900000),(900001,900001)] [900001]
 refine A [3,31,8,31,9,12,12,0,6,9,105,0,5,3,86,62,8,68,52,6,7,0,5,6,7,8,9,9,8,900000,900001,19,7,6,53,11,0,1,3,7,15,0,32,127,255,511,1023,207] ?_
 refine vT [98,102,1800003] [104] [] U U (zBT (T:=tab) a.2.2 (by simp) U U U U U U U U fun i e=>pzq U) (fun _=>U) (fun _=>U) fun i e=>vq 1 U (by kernel_rfl) (vU [106,1800003] [108] [] U U (zNv (T:=tab) (zHN (f:=nB) (zAu e)) U U U U U U U U (pyq U)) U U fun _ _=>vS [108] [110,6111] [3055] U U (zLX (n:=3055) tab Tryz.func229 U U U U U U U U U U U U ⟨⟨_,U,.rfl⟩,trivial⟩ zWS U U (pyq U)) U U (A [79,13] ?_))
 refine zW7 (T:=tab) (enc:=zAB) (enc':=fun (c:Int)=>Z c) (xs:=i.1.Kids) (x0:=q) (n:=3055) (tS:=32) (tE:=3) (tI:=3) (tB:=4) (tF:=336) (g:=274) (M:=(zHA a i (zFZ fu j h t))) (Sf:=fun (d:(List zCt))=>[(9,.box 3 [Z a.2.1]),(8,.box 3 [Z a.1]),(900000,.box 288 [.own 900001,Z m,Y j]),(900001,.tre 77 10 6 3 (a.2.2.map nB)),(19,.arr 291 3 (d.map zGJ)),(6,.box 344 [.own 19])]) (N1:=[6,8,9,900000]) (E0:=[(0,.loc 900000 0),(5,Z (h.length:Int)),(6,.loc 6 0),(8,.loc 8 0),(9,.loc 9 0)]) (E1:=fun p c=>[(0,.loc 900000 0),(5,Z (h.length:Int)),(6,.loc 6 0),(8,.loc 8 0),(9,.loc 9 0),(56,Z ((p:Nat):Int)),(57,Z c),(11,Z c)]) Tryz.func274 U U U zWT U U (fun _=>U) (fun _=>U) U U ⟨U,U,U,U,U,trivial⟩ U U ⟨U,U,U,U,U,U,trivial⟩ U U U U U U ?_ ?_ ?_
 ·rintro p c d hy w0 X X0 σ0 _ _
  refine A [1,11] ?_
  exact zPM ⟨U,U,U,U,U,U,U,U,trivial⟩ ⟨U,U,U,U,U,U,trivial⟩ U
 ·rintro p c d hy w0 X X0 σ0 _ _
  refine zQe hy (A [104,20] ?_)
  exact pl ([(⟨c,a.2.1,a.1⟩:zCt)].map zGJ) 63 U U U U U U (pa zGJ d ([(⟨c,a.2.1,a.1⟩:zCt)]:List zCt) U U U U U U U U (zTX _) U U U (A [12,63] (tx (d++[(⟨c,a.2.1,a.1⟩:zCt)]))))
 ·rintro d
  exact A [15,69,58,14,31,6,12,63] (tx (d,a.2.2))
def zME (fu:Nat) (c:Forest) (h f:Int) (a:Bool) (b:Int):Option (Forest×Int×Int):=bnd (rng .i64 ((c.Nodes.length:Int)+b)) fun g=>cnd (decide (g>c.Most)) (some (c,(-1),8)) (bnd (zAm fu c.Nodes) fun e=>bnd (zKb fu (⟨h,f,(-1)⟩:zCt) a (e.map fun x=>(x,false))) fun d=>some ((⟨(d.2.map Prod.fst),c.Most⟩:Forest),d.1,0))
def zQ3 (fu:Nat) (b:Forest) (c d:Int) (a:Bool):Option (Forest×Int×Int):=bnd (zGr fu b [c]) fun e=>cnd (!e) (some (b,(-1),1)) (bnd (zO1 fu b d) fun f=>cnd (!f) (some (b,(-1),1)) (cnd a (bnd (zFR fu b c) fun g=>(zME fu b c d a) (g.length:Int)) ((zME fu b c d a) 1)))
theorem zUf {fu:Nat} {g:Forest} {e f:Int} {a:Bool}:DD (zQ3 fu g e f a) 136 [.agg (zAD g),Z e,Z f,Y a] fun r=>.tup [.agg (zAD r.1),Z r.2.1,Z r.2.2]:=by
 refine fcI Tryz.func136 U (A [9,30,4,31,8,2,0,6,61] ?_)
 refine pl ([e].map zAB) 16 U U U U U U (A [33,16,41] (fun k _=>?_) zHB)
 refine A [2,26,19,6,105,65,80,12,2,74,2,41] (fun l _=>?_) zQ6
 refine A [2,0,5,4,80,12,2,74,67,75,58] ?_
 refine jw (zME fu g e f a) [1,2,3,4,8] [8,4] (fun b=>[(11,Z b)]) (fun _=>[]) U U ?_ fun c=>?_
 ·rintro b
  refine A [7,6,61,35,1,16] fun j _=>?_
  refine A [3,0,5,4,80,12,2,74,68,52,5,2,1,2,3,4,8,8,4,53,10,0,1,3,0,8,31,0,127,255,511,202] ?_
  refine vT [82] [84,4841] [2420] U U (tqG (rn:=[(5,2420)]) (ks:=[2420]) ⟨zBl⟩ U U U U U U U U fun d _=>zes 2420 6 3 zAX d U U U U (pzq U)) (fun _=>U) (fun _=>U) fun d _=>A [202,51,3,1,84,88,4841,90,201,51,3,1,90,92,4841,94] ?_
  refine vS [94,4841] [96,97] [48] U U (zRt  48 U U U U U U U U U U (pyq U)) U U (A [201,79,93,20,43] (fun h _=>?_) zOG [(900000,48),(900001,2420)] [2420])
  refine A [57,9,105,12,2,0] ?_
  exact zDn 2420 (nB) Prod.fst zAX h.2 (fun _=>U) (fun _=>U) U U U rN
 ·refine zAE U ?_ ?_
  ·refine A [14,2,43] (fun i _=>?_) zI9 [(1034,2290)] [2290]
   exact A [33,2290,35,1,11,45] (c (i.length:Int))
  ·exact A [4,45] (c 1)
def zEp (_fu:Nat) (a:Int) (b:Forest):Option Bool:=cnd (decide (a<0)) (some true) (some (decide (a>=(b.Nodes.length:Int))))
theorem zP9 {fu:Nat} {b:Int} {a:Forest}:FF (zEp fu b a) 157 [Z b,.loc 900000 0] [(900000,.box 24 (zAD a))] [900000] (fun r=>Y r) fun _=>[(900000,.box 24 (zAD a))]:=by
 exact fcI Tryz.func157 U (A [58,93,26,6,2,107,74,3,35,3,74])
theorem zJg {fu:Nat} {b:List Int} {a:Forest}:FF (zAS fu (fun c=>zEp fu c a) b) 227 [.sl 1 false (b.map zAB),.fn (.func 157) [] [.loc 900000 0]] [(900000,.box 24 (zAD a))] [900000] (fun r=>Z r) fun _=>[(900000,.box 24 (zAD a))]:=by
 refine fcI Tryz.func227 U (A [75,80,77,13] ?_)
 refine lw (zAH (fun c=>zEp fu c a) b) [0,1,7] [900000] (fun d=>[(8,Z d)]) (fun _=>[]) fu 0 U U ?_
 rintro f d
 refine A [75,10,2,86,59,72,62,93,36] fun h _=>?_
 refine A [1,44] (fun g _=>?_) zP9 [(900000,900000)]
 refine A [0,5,2,62,8,4,94] fun e _=>?_
 exact A [89] (tx e)
theorem zIc {fu:Nat} {b:List Int} {a:Forest}:FF (zAc fu (fun c=>zEp fu c a) b) 156 [.sl 1 false (b.map zAB),.fn (.func 157) [] [.loc 900000 0]] [(900000,.box 24 (zAD a))] [900000] (fun r=>Y r) fun _=>[(900000,.box 24 (zAD a))]:=by
 refine fcI Tryz.func156 U (A [58,61,44] (fun d _=>?_) zJg [(900000,900000)])
 exact A [2,74]
def zER (fu:Nat) (a:Forest) (l2:List Int):Option Bool:=bnd (zAo fu a) fun b=>cnd b (bnd (zAc fu (fun d=>zEp fu d a) l2) fun c=>some (!c)) (some false)
theorem zGH {fu:Nat} {a:Forest} {l2:List Int}:DD (zER fu a l2) 93 [.agg (zAD a),.sl 1 false (l2.map zAB)] fun r=>Y r:=by
 refine fcI Tryz.func93 U (A [73,57,80,41] (fun b _=>?_) zA3)
 refine A [1,27,7,2,106,74,2,44] (fun c _=>?_) zIc [(900000,2)]
 exact A [3,74]
def zAe (_fu:Nat) (l1:zAf) (a:Int):Option Int:=bnd (idx l1.Forest.Nodes a) fun b=>some b.Kind
theorem zC6 {fu:Nat} {l1:zAf} {a:Int}:DD (zAe fu l1 a) 158 [.agg (zIQ l1),Z a] fun r=>Z r:=by
 refine fcI Tryz.func158 U (A [73,57,76,36] fun b _=>?_)
 exact A [3,74]
def zDV (fu:Nat) (b:Forest) (a:Int):Nat->Int->Option Bool
 | 0,_=>none
 | k1+1,b5=>cnd (b5 != (-1)) (cnd (b5 != a) (bnd (zGp fu b b5) fun c=>(zDV fu b a k1) c) (some (b5==a))) (some (b5==a))
def zEN (fu:Nat) (c:Forest) (a b:Int):Option Bool:=bnd (zB9 fu c [a,b]) fun d=>cnd (!d) (some false) ((zDV fu c a) fu b)
theorem zOC {fu:Nat} {c:Forest} {a b:Int}:DD (zEN fu c a b) 159 [.agg (zAD c),Z a,Z b] fun r=>Y r:=by
 refine fcI Tryz.func159 U (A [9,30,3,57,6,93] ?_)
 refine pl ([a,b].map zAB) 10 U U U U U U (A [33,10,41] (fun g _=>?_) zHy)
 refine A [57,5,1,59,72] ?_
 refine lw (zDV fu c a) [1,3] [3] (fun d=>[(2,Z d)]) (fun _=>[]) fu b U U ?_
 rintro f d
 refine A [6,93,27,15,6,104,11,24,86,76,74,104,0,10,3,86,76,74,67,13,14,2,41] (fun e _=>?_) zNi
 exact A [1,11,15,46] (tx e)
def zBe (fu:Nat) (l1:zAf) (a:List Int) (b:Int):Nat->Int×Int->Option Int
 | 0,_=>none
 | k1+1,(n4,t5)=>cnd (decide (t5<(a.length:Int))) (bnd (idx a t5) fun e=>cnd (e != l1.gone) (bnd (zAe fu l1 e) fun h=>cnd (h==b) (bnd (rng .i64 (n4+1)) fun f=>bnd (rng .i64 (t5+1)) fun g=>(zBe fu l1 a b k1) (f,g)) (bnd (rng .i64 (t5+1)) fun c=>(zBe fu l1 a b k1) (n4,c))) (bnd (rng .i64 (t5+1)) fun d=>(zBe fu l1 a b k1) (n4,d))) (some n4)
def zCe (fu:Nat) (l1:zAf) (a:List Int) (b:Int):Option Int:=(zBe fu l1 a b) fu (0,0)
theorem zFG {fu:Nat} {l1:zAf} {a:List Int} {b:Int}:DD (zCe fu l1 a b) 228 [.agg (zIQ l1),.sl 1 false (a.map zAB),Z b] fun r=>Z r:=by
 refine fcI Tryz.func228 U (A [9,30,3,57,75,80,77,13] ?_)
 refine lw (zBe fu l1 a b) [2,3,10,11] [3] (fun (c,f)=>[(7,Z c),(12,Z f)]) (fun _=>[]) fu (0,0) U U ?_
 rintro i ⟨c,f⟩
 refine A [75,10,3,86,62,8,72,9,36] fun l _=>?_
 refine A [2,0,9,105] ?_
 refine zAT (j:=20) U ?_ ?_
 ·refine A [2,41] (fun k _=>?_) zC6
  refine A [3,0] ?_
  refine zAE U ?_ ?_
  ·refine A [14,1,16] fun g _=>?_
   refine A [1,11,94] fun h _=>?_
   exact A [89] (tx (g,h))
  ·refine A [4,94] fun d _=>?_
   exact A [89] (tx (c,d))
 ·refine A [106,11,24,4,94] fun e _=>?_
  exact A [89] (tx (c,e))
def zBd (fu:Nat) (l1:zAf) (a:List Int):Option Bool:=bnd (zCe fu l1 a 2) fun c=>cnd (decide (c>0)) (some true) (bnd (zCe fu l1 a 1) fun d=>cnd (decide (d>0)) (bnd (zCe fu l1 a 1) fun e=>bnd (idx l1.Forest.Nodes l1.p) fun g=>bnd (zCe fu l1 g.Kids 1) fun f=>bnd (rng .i64 (e+f)) fun b=>some (decide (b>1))) (some false))
theorem zHQ {fu:Nat} {l1:zAf} {a:List Int}:DD (zBd fu l1 a) 160 [.agg (zIQ l1),.sl 1 false (a.map zAB)] fun r=>Y r:=by
 refine fcI Tryz.func160 U (A [73,57,6,52,2,1,1,2,2,53,28,0,0,3,7,15,31,31,127,255,511,1023,1023,4095,1023,1023,17407,50175,1023,132095,508927,1033215,2081791,4194303,8388607,16777215,33554431,67108863,134217727,202,54,2,1,10,12,14] (fun d _=>?_) zFG)
 refine vq 2 U (by kernel_rfl) (zBP (t:=9) U ?_ ?_)
 ·exact A [223,79,8]
 ·refine A [202,54,3,1,18,20,22,24] (fun e _=>?_) zFG
  refine vq 2 U (by kernel_rfl) (zBP (t:=14) U ?_ ?_)
  ·refine A [202,54,3,1,28,30,32,34] (fun f _=>?_) zFG
   refine vq 6 U (by kernel_rfl) (vT [28,42,46] [48] [] U U (zBE (T:=tab) zAX l1.Forest.Nodes U U U U U U U fun c _=>pzq U) (fun _=>U) (fun _=>U) fun c _=>A [202,54,3,1,28,36,52,54] (fun g _=>?_) zFG)
   exact vT [28,34,54] [56] [] U U (zJV (T:=tab) U U U U fun b _=>pzq U) (fun _=>U) (fun _=>U) fun b _=>A [204,79,8]
  ·exact A [218,79,8]
def zD2 (fu:Nat) (l1:zAf) (f g:Int) (h:Bool):Option Int:=cnd h (some 5) (cnd (g==3) (bnd (zAe fu l1 l1.p) fun a=>cnd (a==0) (bnd (idx l1.Forest.Nodes f) fun e=>bnd (zBd fu l1 e.Kids) fun b=>cnd b (some 5) (some 0)) (some 0)) (bnd (zAe fu l1 l1.p) fun c=>cnd (c==0) (bnd (zBd fu l1 [f]) fun d=>cnd d (some 5) (some 0)) (some 0)))
def zD1 (fu:Nat) (l1:zAf) (b:Int) (c:Unit):Option Int:=bnd (zAe fu l1 b) fun a=>cnd (a==0) ((zD2 fu l1 b a) (a==0)) ((zD2 fu l1 b a) (a==4))
def zD0 (fu:Nat) (l1:zAf) (c:Int) (a b:Bool):Option Int:=cnd (!a) (cnd (!a) (some 5) (cnd (!b) (some 6) ((zD1 fu l1 c) ()))) (bnd (zEN fu l1.Forest c l1.p) fun d=>cnd d (some 5) (cnd (!b) (some 6) ((zD1 fu l1 c) ())))
def zAk (fu:Nat) (l1:zAf) (b:Int) (a:Bool):Option Int:=cnd (l1.child != (-1)) (bnd (idx l1.Forest.Nodes l1.child) fun c=>(zD0 fu l1 b a) (c.Parent==l1.p)) ((zD0 fu l1 b a) (l1.child==(-1)))
def zDK (fu:Nat) (l1:zAf) (a:Int):Option Int:=bnd (zAe fu l1 l1.p) fun b=>cnd (b==0) (cnd (b==0) ((zAk fu l1 a) true) ((zAk fu l1 a) false)) (cnd (b==1) (cnd (b==1) ((zAk fu l1 a) true) ((zAk fu l1 a) false)) (cnd (b==3) (cnd (b==3) ((zAk fu l1 a) true) ((zAk fu l1 a) false)) (cnd (b==4) ((zAk fu l1 a) true) ((zAk fu l1 a) false))))
theorem zGf {fu:Nat} {l1:zAf} {d:Int}:DD (zDK fu l1 d) 94 [.agg (zIQ l1),Z d] fun r=>Z r:=by
 refine fcI Tryz.func94 U (A [73,57,6,52,2,1,1,2,2,53,5,0,1,3,0,15,205,79,6,93,41] (fun q _=>?_) zC6)
 refine ns (jw (zAk fu l1 d) [1,2,6] [2] (fun a=>[(5,Y a)]) (fun _=>[]) U U ?_ fun b=>?_)
 ·rintro a
  refine A [7,6,93,0] ?_
  refine jw (zD0 fu l1 d a) [1,2,5] [2] (fun c=>[(6,Y c)]) (fun _=>[]) U U ?_ fun e=>?_
  ·rintro c
   refine A [7,6] ?_
   refine jw (zD1 fu l1 d) [1,2] [2] (fun _=>[]) (fun _=>[]) U U ?_ fun f=>?_
   ·rintro _
    refine A [7,6,99] (fun h _=>?_) zC6
    refine A [0,13,6,62] ?_
    refine jw (zD2 fu l1 d h) [1,2,47] [2] (fun j=>[(48,Y j)]) (fun _=>[]) U U ?_ fun g=>?_
    ·rintro j
     refine A [7,5,1,59,62] ?_
     refine zAE U ?_ ?_
     ·refine A [6,6,52,2,1,1,2,2,53,16,0,0,2,7,15,31,63,63,191,447,63,1983,4031,8127,16383,32767,203,54,2,1,106,110,112] (fun l _=>?_) zC6
      refine vq 2 U (by kernel_rfl) (zBP (t:=58) U ?_ ?_)
      ·refine vq 5 U (by kernel_rfl) (vT [116,124,126] [128] [] U U (zBE (T:=tab) zAX l1.Forest.Nodes U U U U U U U fun i _=>pzq U) (fun _=>U) (fun _=>U) fun i _=>A [202,54,3,1,116,118,132,134] (fun m _=>?_) zHQ)
       exact A [201,79,5,1,59,67,59]
      ·exact A [210,19,24,67,59]
     ·refine A [4,69,6,93,41] (fun n _=>?_) zC6
      refine A [2,27,74,5,105,11,24,67,59,2] ?_
      refine pl ([d].map zAB) 77 U U U U U U (A [33,77,41] (fun o _=>?_) zHQ)
      exact A [57,5,1,59,67,59]
    ·refine zAE U ?_ ?_
     ·exact A [4,45] (g (h==0))
     ·exact A [14,2,11,45] (g (h==4))
   ·refine A [13,6,93,0] ?_
    refine zAE U ?_ ?_
    ·exact A [67,5,1,59,93,0,5,1,59,4,15,45] (f ())
    ·refine A [14,105,41] (fun s _=>?_) zOC
     exact A [57,5,1,59,93,0,5,1,59,4,15,45] (f ())
  ·refine zAE U ?_ ?_
   ·refine A [52,3,1,1,2,5,2,53,12,0,1,3,0,8,31,63,127,0,256,1023,2047,205] ?_
    exact vT [48,52] [54] [] U U (zBE (T:=tab) zAX l1.Forest.Nodes U U U U U U U fun k _=>pzq U) (fun _=>U) (fun _=>U) fun k _=>A [206,19,45] (e (k.Parent==l1.p))
   ·exact A [4,45] (e (l1.child==(-1)))
 ·refine A [13,6,62] ?_
  refine zAE U ?_ ?_
  ·refine A [67] ?_
   refine zAE U ?_ ?_
   ·exact A [14,1,11,15,45] (b true)
   ·exact A [4,15,45] (b false)
  ·refine A [62] ?_
   refine zAE U ?_ ?_
   ·refine A [67] ?_
    refine zAE U ?_ ?_
    ·exact A [14,1,11,15,45] (b true)
    ·exact A [4,15,45] (b false)
   ·refine A [62] ?_
    refine zAE U ?_ ?_
    ·refine A [67] ?_
     refine zAE U ?_ ?_
     ·exact A [14,1,11,15,45] (b true)
     ·exact A [4,15,45] (b false)
    ·refine A [14,2,0] ?_
     refine zAE U ?_ ?_
     ·exact A [14,1,11,15,45] (b true)
     ·exact A [4,15,45] (b false)
def zFF (fu:Nat) (b:Forest) (c d a:Int):Option Int:=bnd (zER fu b [c,d]) fun e=>cnd (!e) (some 1) (cnd (a != (-1)) (bnd (zER fu b [a]) fun f=>cnd (!f) (some 1) (bnd (zDK fu (⟨b,d,a,(-1)⟩:zAf) c) fun g=>some g)) (bnd (zDK fu (⟨b,d,a,(-1)⟩:zAf) c) fun h=>some h))
theorem zPg {fu:Nat} {d:Forest} {b c a:Int}:DD (zFF fu d b c a) 48 [.agg (zAD d),Z b,Z c,Z a] fun r=>Z r:=by
 refine fcI Tryz.func48 U (A [9,30,4,57,6,93] ?_)
 refine pl ([b,c].map zAB) 12 U U U U U U (A [33,12,41] (fun e _=>?_) zGH)
 refine A [2,26,15,2,110,83,3] ?_
 refine zAT (j:=18) U ?_ ?_
 ·refine pq 2 U (pl ([a].map zAB) 21 U U U U U U (A [33,21,41] (fun f _=>?_) zGH))
  refine A [3,0,5,1,59,67,93,20,1,41] (fun g _=>?_) zGf
  exact A [57,8]
 ·refine A [107,11,24,67,93,20,1,41] (fun h _=>?_) zGf
  exact A [57,8]
def zBR (_fu:Nat) (a:Bs) (b:Int):Option (Option (Bs×Int)):=cnd (b==0) (some none) (some (some (a,b)))
theorem zB7 {fu:Nat} {a:Bs} {b:Int}:DD (zBR fu a b) 47 [O a,Z b] fun r=>.v (zRR 181 179 r):=by
 refine fcI Tryz.func47 U (A [75,62,5,1,59,67,61,20] ?_)
 exact zbg [(.int .i64 b)] (by kernel_rfl) U U U U U U (zOm (T:=tab) U U U U U U U (zbg [(.string ⟨⟨a⟩⟩),(.iface 179 (.agg ⟨[.int .i64 b]⟩))] (by kernel_rfl) U U U U U U (A [57,8])))
def zHb (fu:Nat) (b:Forest) (c:List Node):Nat->Int×(List (Node×Bool))->Option (Unit×Int×(List (Node×Bool))×(List Note))
 | 0,_=>none
 | k1+1,(t3,a)=>cnd (decide (t3<(((c.map fun x=>(x,false)).length:Nat):Int))) (bnd (idx a t3) fun d=>bnd (zSU d.2) fun _=>bnd (zBY fu d.1.Kids) fun f=>bnd (idx a t3) fun g=>bnd (rng .i64 (t3+1)) fun e=>(zHb fu b c k1) (e,(a.set (t3).toNat (({g.1 with Kids:=f}:Node),true)))) (some ((),b.Most,a,([]:List Note)))
def zKU (fu:Nat) (a:Forest):Option (Unit×Int×(List (Node×Bool))×(List Note)):=bnd (zAm fu a.Nodes) fun b=>(zHb fu a b) fu (0,(b.map fun x=>(x,false)))
theorem zHc {fu:Nat} {g:Forest}:FF (zKU fu g) 91 [.agg (zAD g)] [] [] (fun _=>.loc 12 0) fun r=>[(12,.box 131 [.own 2070,Z r.2.1,.own 31202]),(2070,.tre 77 10 6 3 (r.2.2.1.map nB)),(31202,.arr 192 9 (r.2.2.2.map zBG))]:=by
 refine fcI Tryz.func91 U (A [9,30,1,57,6,52,1,1,1,1,53,9,0,1,3,0,8,31,63,127,255,202] ?_)
 refine vT [12] [14,4141] [2070] U U (tqG (rn:=[(5,2070)]) (ks:=[2070]) ⟨zBl⟩ U U U U U U U U fun d _=>zes 2070 6 3 zAX d U U U U (pzq U)) (fun _=>U) (fun _=>U) fun d _=>A [202,51,3,1,14,18,4141,20,51,2,1,20,4141,22] ?_
 refine vS [22,4141] [24,25] [12] U U (zRt  12 U U U U U U U U U U (pyq U)) U U (A [201,79,6,9,105] ?_)
 refine zMq (T:=tab) (l:=(d.map fun x=>(x,false)).length) U U U U U U U (by simp) U U (A [57,13] ?_)
 refine lw (zHb fu g d) [3,18] [12] (fun (e,a)=>[(19,Z e)]) (fun (e,a)=>[(2070,.tre 77 10 6 3 (a.map nB))]) fu (0,(d.map fun x=>(x,false))) U U ?_
 rintro m ⟨e,a⟩
 refine A [75] ?_
 refine zAE U ?_ ?_
 ·refine A [72,62,52,4,2,3,18,19,4,12,2070,53,19,0,1,3,7,15,0,0,64,192,448,960,0,4032,8128,16320,32704,65535,131071,262143,212] ?_
  refine vT [64,66,4141] [68] [] U U (zBT (T:=tab) a (by simp) U U U U U U U U fun k b=>pzq U) (fun _=>U) (fun _=>U) fun k b=>vq 1 U (by kernel_rfl) (vU [70,4141] [72] [] U U (zNv (T:=tab) (zHN (f:=nB) (zAu b)) U U U U U U U U (pyq U)) U U fun _ _=>A [55,1,2,72,74,4741] (fun i _=>?_) zFB [(5,2370)] [2370])
  refine vT [52,54,4141] [76] [] U U (zBT (T:=tab) a (by simp) U U U U U U U U fun h c=>pzq U) (fun _=>U) (fun _=>U) fun h c=>vq 1 U (by kernel_rfl) (vS [74,78,4141,4741] [74,4741,4141] [] U U (zT6 (T:=tab) (zHN (f:=nB) (zAu c)) (zdF (f:=nB) ((({h.1 with Kids:=i}:Node),true):Node×Bool) (by rfl)) U U U U U U U U U U U (pyq U)) U U (A [19,94] fun j _=>?_))
  exact A [89] (tx (j,(a.set (e).toNat (({h.1 with Kids:=i}:Node),true))))
 ·refine A [86,62] ?_
  exact zJW 31202 192 9 12 2 U U U U U U rN
def zHz (fu:Nat) (d:Forest) (b f a:Int):Option Int:=bnd (zFF fu d b f a) fun g=>cnd (g != 0) (some (-1)) (cnd (a != b) (some a) (bnd (idx d.Nodes f) fun c=>bnd (zCd fu c.Kids b) fun h=>bnd (rng .i64 (h+1)) fun e=>cnd (decide (e>=(c.Kids.length:Int))) (some (-1)) (bnd (idx c.Kids e) fun i=>some i)))
theorem zQ8 {fu:Nat} {b:Forest} {c d a:Int}:DD (zHz fu b c d a) 51 [.agg (zAD b),Z c,Z d,Z a] fun r=>Z r:=by
 refine fcI Tryz.func51 U (A [9,30,4,57,6,76,41] (fun f _=>?_) zPg)
 refine A [57,5,1,59,68,93,0,5,2,62,8,67,93,36] fun h _=>?_
 refine A [3,0,99] (fun g _=>?_) zGe
 refine A [16] fun e _=>?_
 refine A [57,6,61,77,5,1,59,67,61,36] fun i _=>?_
 exact A [2,74]
def zIu (fu:Nat) (b:Forest) (a:Int):Option (List Int):=bnd (zER fu b [a]) fun c=>cnd (!c) (some ([]:List Int)) (bnd (idx b.Nodes a) fun e=>cnd (e.Kind==3) (bnd (idx b.Nodes a) fun f=>bnd (zBY fu f.Kids) fun d=>some d) (some [a]))
theorem zSD {fu:Nat} {b:Forest} {a:Int}:FF (zIu fu b a) 95 [.agg (zAD b),Z a] [] [] (fun _=>.own 2250) fun r=>[(2250,.arr 3 1 (r.map zAB))]:=by
 refine fcI Tryz.func95 U (A [73,57,6,13,61] ?_)
 refine pl ([a].map zAB) 2250 U U U U U U (A [33,2250,41] (fun c _=>?_) zGH)
 refine A [2,0,5,7,58,56,2250,3,1,4,8,93,36] fun e _=>?_
 refine A [104,0] ?_
 refine zAE U ?_ ?_
 ·refine A [93,36] fun f _=>?_
  refine A [2,43] (fun d _=>?_) zFB [(5,2250)] [2250]
  exact A [57,8]
 ·refine A [4,69,80] ?_
  exact pl ([a].map zAB) 2250 U U U U U U (A [57,8])
def zDv (_fu:Nat) (b:Int) (a:Forest):Option Bool:=bnd (idx a.Nodes b) fun c=>some (c.Kind != 1)
theorem zLg {fu:Nat} {b:Int} {a:Forest}:FF (zDv fu b a) 232 [Z b,.loc 900000 0] [(900000,.box 24 (zAD a))] [900000] (fun r=>Y r) fun _=>[(900000,.box 24 (zAD a))]:=by
 refine fcI Tryz.func232 U (A [58,93,36] fun c _=>?_)
 exact A [104,74]
theorem zJh {fu:Nat} {l1:List Int} {a:Forest}:FF (zAS fu (fun c=>zDv fu c a) l1) 227 [.own 900000,.fn (.func 232) [] [.loc 900001 0]] [(900000,.arr 3 1 (l1.map zAB)),(900001,.box 24 (zAD a))] [900000,900001] (fun r=>Z r) fun _=>[(900000,.arr 3 1 (l1.map zAB)),(900001,.box 24 (zAD a))]:=by
 refine fcI Tryz.func227 U (A [75,80,39,57,13] ?_)
 refine lw (zAH (fun c=>zDv fu c a) l1) [0,1,7] [900000,900001] (fun d=>[(8,Z d)]) (fun _=>[]) fu 0 U U ?_
 rintro g d
 refine A [75,10,2,86,59,72,62,93,38] fun f b=>?_
 refine zAr (T:=tab) zAB l1 f (zAu b) U U U U U U U U (A [44] (fun h _=>?_) zLg [(900000,900001)])
 refine A [0,5,2,62,8,4,94] fun e _=>?_
 exact A [89] (tx e)
def zA6 (f:Int->Option Bool):Nat->Int×Int×(List Int)->Option (List Int)
 | 0,_=>none
 | k1+1,(i5,j6,l7)=>cnd (decide (j6<(l7.length:Int))) (bnd (idx l7 j6) fun g=>bnd (f g) fun h=>cnd (!h) (bnd (idx l7 i5) fun i=>bnd (rng .i64 (i5+1)) fun a=>bnd (rng .i64 (j6+1)) fun b=>(zA6 f k1) (a,b,(l7.set (i5).toNat g))) (bnd (rng .i64 (j6+1)) fun c=>(zA6 f k1) (i5,c,l7))) (bnd (zVu l7 i5 (0:Int)) fun d=>bnd (piece d 0 i5) fun e=>some e)
def zDX (fu:Nat) (b:Int->Option Bool) (l1:List Int):Option (List Int):=bnd (zAS fu b l1) fun a=>cnd (a==(-1)) (some l1) (bnd (rng .i64 (a+1)) fun c=>(zA6 b) fu (a,c,l1))
theorem zKY {fu:Nat} {l1:List Int} {c:Forest}:FF (zDX fu (fun l=>zDv fu l c) l1) 231 [.own 900000,.fn (.func 232) [] [.loc 900001 0]] [(900000,.arr 3 1 (l1.map zAB)),(900001,.box 24 (zAD c))] [900001] (fun _=>.own 900000) fun r=>[(900000,.arr 3 1 (r.map zAB)),(900001,.box 24 (zAD c))]:=by
 refine fcI Tryz.func231 U (A [58,61,44] (fun o _=>?_) zJh [(900000,900000),(900001,900001)])
 refine A [57,6,62,5,2,62,8,68,80,16] fun m _=>?_
 refine A [57,13] ?_
 refine lw (zA6 (fun l=>zDv fu l c)) [0,1] [900001] (fun (e,j6,a)=>[(5,Z e),(6,Z j6)]) (fun (e,j6,a)=>[(900000,.arr 3 1 (a.map zAB))]) fu (o,m,l1) U U ?_
 rintro p ⟨e,j6,a⟩
 refine A [6,61,39,57] ?_
 refine zAE U ?_ ?_
 ·refine A [72,61,38] fun k f=>?_
  refine zAr (T:=tab) zAB a k (zAu f) U U U U U U U U (A [57,61,44] (fun q _=>?_) zLg [(900000,900001)])
  refine A [57] ?_
  refine zAE U ?_ ?_
  ·refine A [93,38] fun j d=>?_
   refine zCr (T:=tab) zAB a j k (zAu d) U U U U U U U U U U U U U (A [0,14,1,16] fun g _=>?_)
   refine A [1,11,70,1,16] fun h _=>?_
   exact A [89] (tx (g,h,(a.set (e).toNat k)))
  ·refine A [4,70,1,16] fun i _=>?_
   exact A [89] (tx (e,i,a))
 ·refine A [86,61] ?_
  refine zYJ (T:=tab) zAB a (0:Int) (S':=fun b=>[(900000,.arr 3 1 (b.map zAB)),(900001,.box 24 (zAD c))]) U U U U U U U U U U U U U U U U U U (fun _=>U) fun b _=>A [0,61] ?_
  exact zI4 (T:=tab) zAB b U U U U U U U U U U U fun n _=>A [57,8]
def zFx (fu:Nat) (a:Forest) (b:Int):Option (List Int):=bnd (zDu fu a b) fun c=>bnd (zDX fu (fun e=>zDv fu e a) c) fun d=>some d
theorem zSB {fu:Nat} {a:Forest} {b:Int}:FF (zFx fu a b) 164 [.agg (zAD a),Z b] [] [] (fun _=>.own 2070) fun r=>[(2070,.arr 3 1 (r.map zAB))]:=by
 refine fcI Tryz.func164 U (A [73,57,61,43] (fun c _=>?_) zJx [(1035,2070)] [2070])
 refine A [1,43] (fun d _=>?_) zKY [(900000,2070),(900001,2)] [2070]
 exact A [57,8]
def zC5 (d:Note) (c:List Int):Nat->Int×Int×(List Note)->Option (List Note)
 | 0,_=>none
 | k1+1,(t7,c8,l9)=>cnd (decide (t7<(c.length:Int))) (bnd (idx c t7) fun a=>bnd (zDT 88 (l9.length+([({d with Node:=a}:Note)]:List Note).length)) fun _=>bnd (rng .i64 (t7+1)) fun b=>(zC5 d c k1) (b,a,(l9++[({d with Node:=a}:Note)]))) (some l9)
def zEF (fu:Nat) (e:Int) (a:Note) (b:Int) (c:List (Node×Bool)) (d:List Note):Option (List Note):=bnd (zFx fu (⟨(c.map Prod.fst),b⟩:Forest) e) fun f=>(zC5 a f) fu (0,a.Node,d)
theorem zHa {fu:Nat} {i:Int} {a:Note} {e:Int} {c:List (Node×Bool)} {l:List Note}:FF (zEF fu i a e c l) 99 [.loc 900000 0,Z i,.agg (zBG a)] [(900000,.box 131 [.own 900001,Z e,.own 900002]),(900001,.tre 77 10 6 3 (c.map nB)),(900002,.arr 192 9 (l.map zBG))] [900000,900001] (fun _=>.tup []) fun r=>[(900000,.box 131 [.own 900001,Z e,.own 900002]),(900001,.tre 77 10 6 3 (c.map nB)),(900002,.arr 192 9 (r.map zBG))]:=by
 refine fcI Tryz.func99 U (A [9,30,5,0,9,105] ?_)
 refine zNt (ps:=[.agg [.own 900001,Z e],Z i]) [(900001,.sl 10 false ((c.map Prod.fst).map zAX))] [2130] (enc:=fun (d:(List Int))=>.own 2130) (Sr:=fun (d:(List Int))=>[(2130,.arr 3 1 (d.map zAB))]) (qs:=[.agg (zAD (⟨(c.map Prod.fst),e⟩:Forest)),Z i]) (Sc:=[]) (N0:=[]) (NR:=[2130]) (fun d f=>zPr [(2070,2130)] [2070] (zSB _ f) U U U U U U) trivial (fun _=>U) U U U U U U U (fun _=>U) (fun _=>U) ⟨zOg (nB) Prod.fst zAX c (fun _=>U) (fun _=>U) U,trivial⟩ U U (fun _=>U) (fun _=>by first | rfl | simp [zLh,zDM,zAB]) U U U ⟨⟨_,U,.rfl⟩,⟨_,U,.rfl⟩,trivial⟩ zfN U U fun d f=>A [39,57,13] ?_
 refine lw (zC5 a d) [0,5,13,14] [2130,900000,900001] (fun (m,j,h)=>[(15,Z m)]) (fun (m,j,h)=>[(5,.box 192 [Z a.Kind,Z j,Z a.From,Z a.To,O a.Name,Y a.Had,Y a.Has,O a.Old,O a.New]),(900002,.arr 192 9 (h.map zBG))]) fu (0,a.Node,l) U U ?_
 rintro n ⟨m,j,h⟩
 refine A [75] ?_
 refine zAE U ?_ ?_
 ·refine A [72,9,38] fun b g=>?_
  refine zAr (T:=tab) zAB d b (zAu g) U U U U U U U U (A [57,61,12,0,52,5,5,0,5,13,14,15,2130,5,900000,900001,900002,53,11,0,0,2,6,14,0,32,126,255,511,1023,206] ?_)
  refine vS [52] [54,55] [27] U U (pl ([({a with Node:=b}:Note)].map zBG) 27 U U U U U U (pyq U)) U U (vU [50,54,55,1800001,1800005] [56,50,1800001,1800005] [900002] U U (pa zBG h ([({a with Node:=b}:Note)]:List Note) U U U U U U U U (zKg _) U U U (pyq U)) U U fun _ _=>A [202,50,4,1,56,60,1800001,1800005,1800001,19,94] fun k _=>?_)
  exact A [89] (tx (k,b,(h++[({a with Node:=b}:Note)])))
 ·exact zUD U (zKM (T:=tab) U U U ⟨U,U⟩ ⟨U,U,U,trivial⟩ U)
def zB2 (a:Int) (l2:List Int):Nat->Int->Option Int
 | 0,_=>none
 | k1+1,t3=>cnd (decide (t3<(l2.length:Int))) (bnd (idx l2 t3) fun c=>cnd (a==c) (some t3) (bnd (rng .i64 (t3+1)) fun b=>(zB2 a l2 k1) b)) (some (-1))
def zDE (fu:Nat) (a:Int) (l2:List Int):Option Int:=(zB2 a l2) fu 0
theorem zHP {fu:Nat} {b:Int} {l2:List Int}:FF (zDE fu b l2) 97 [.own 900000,Z b] [(900000,.arr 3 1 (l2.map zAB))] [900000] (fun r=>Z r) fun _=>[(900000,.arr 3 1 (l2.map zAB))]:=by
 refine fcI Tryz.func97 U (A [75,80,39,57,13] ?_)
 refine lw (zB2 b l2) [0,1,7] [900000] (fun c=>[(8,Z c)]) (fun _=>[]) fu 0 U U ?_
 rintro f c
 refine A [75,10,2,86,59,72,62,93,38] fun e a=>?_
 refine zAr (T:=tab) zAB l2 e (zAu a) U U U U U U U U (A [57,5,2,62,8,4,94] fun d _=>?_)
 exact A [89] (tx d)
def zFC (_fu:Nat) (b j2:Int) (a:List Int):Option (List Int):=bnd (cut3 a.length b j2 (a.length:Int)) fun _=>cnd (b==j2) (some a) (bnd (zPX a.length 0 b) fun _=>bnd (zPX a.length j2 (a.length:Int)) fun _=>bnd (delB a.length (b).toNat (j2).toNat ((a.length:Int)).toNat) fun _=>bnd (zPX (zQG a (b).toNat (j2).toNat).length ((((b).toNat+(((a.length:Int)).toNat - (j2).toNat)):Nat):Int) (a.length:Int)) fun _=>bnd (zfa (zQG a (b).toNat (j2).toNat).length (((((b).toNat+(((a.length:Int)).toNat - (j2).toNat)):Nat):Int)).toNat ((a.length:Int)).toNat) fun _=>bnd (zb8 (zRI (zQG a (b).toNat (j2).toNat) (((((b).toNat+(((a.length:Int)).toNat - (j2).toNat)):Nat):Int)).toNat (0:Int)).length ((b).toNat+(((a.length:Int)).toNat - (j2).toNat))) fun _=>some ((zRI (zQG a (b).toNat (j2).toNat) (((((b).toNat+(((a.length:Int)).toNat - (j2).toNat)):Nat):Int)).toNat (0:Int)).take ((b).toNat+(((a.length:Int)).toNat - (j2).toNat))))
theorem zM7 {fu:Nat} {b j2:Int} {a:List Int}:FF (zFC fu b j2 a) 100 [.own 900000,Z b,Z j2] [(900000,.arr 3 1 (a.map zAB))] [] (fun _=>.own 900000) fun r=>[(900000,.arr 3 1 (r.map zAB))]:=by
 refine fcI Tryz.func100 U (A [58,76,39] ?_)
 refine zbe (T:=tab) (L:=a.length) U U U U U U U U (by simp) U U (A [0,6,93,0,5,2,62,8,67,80,39,57,6,52,4,1,0,1,2,7,900000,53,8,0,0,3,0,0,24,63,127,202] ?_)
 refine vU [40,42,1800001] [44] [] U U (zNw (T:=tab) (L:=a.length) (.inl U) U U U U (by simp) U U U U U (pyq U)) U U fun _ _=>vq 2 U (by kernel_rfl) (vU [46,48,1800001] [50] [] U U (zNw (T:=tab) (L:=a.length) (.inl U) U U U U (by simp) U U U U U (pyq U)) U U fun _ _=>vU [44,50,1800001] [52,1800001] [] U U (zPx (T:=tab) zAB a U U U U U U U U U (zDF _) U U U (pyq U)) U U fun _ _=>A [201,79,61] ?_)
 refine zVb (T:=tab) U U U U U U U U U (pq 1 U (zNw (T:=tab) (L:=(zQG a (b).toNat (j2).toNat).length) (.inr ⟨_,U⟩) U U U U (by simp) U U U U U (zNs (T:=tab) zAB (zQG a (b).toNat (j2).toNat) (0:Int) U U U U U U U U U U U U U U (A [0,62] ?_))))
 exact zVf 6 zAB (zRI (zQG a (b).toNat (j2).toNat) (((((b).toNat+(((a.length:Int)).toNat - (j2).toNat)):Nat):Int)).toNat (0:Int)) U U U U U rN
def zFN (fu:Nat) (h:Int) (a:List (Node×Bool)) (e:Node×Bool) (i:List Note):Option ((List (Node×Bool))×(List Note)):=bnd (idx a e.1.Parent) fun f=>bnd (zT0 f.2) fun _=>bnd (zDE fu h f.1.Kids) fun b=>bnd (idx a e.1.Parent) fun j=>bnd (rng .i64 (b+1)) fun g=>bnd (zFC fu b g f.1.Kids) fun c=>bnd (idx a e.1.Parent) fun k=>bnd (idx (a.set (e.1.Parent).toNat (({f.1 with Kids:=c}:Node),true)) h) fun d=>some (((a.set (e.1.Parent).toNat (({f.1 with Kids:=c}:Node),true)).set (h).toNat (({d.1 with Parent:=(-1)}:Node),d.2)),i)
def zDs (fu:Nat) (b e:Int) (a:List (Node×Bool)) (c:List Note):Option ((List (Node×Bool))×(List Note)):=bnd (idx a b) fun d=>cnd (d.1.Parent==(-1)) (some (a,c)) (bnd (zDk fu (⟨(a.map Prod.fst),e⟩:Forest) b) fun f=>cnd f (bnd (zEF fu b (⟨2,0,0,0,[],false,false,[],[]⟩:Note) e a c) fun g=>(zFN fu b a d) g) ((zFN fu b a d) c))
theorem zGQ {fu:Nat} {i e:Int} {a:List (Node×Bool)} {m:List Note}:FF (zDs fu i e a m) 54 [.loc 900000 0,Z i] [(900000,.box 131 [.own 900001,Z e,.own 900002]),(900001,.tre 77 10 6 3 (a.map nB)),(900002,.arr 192 9 (m.map zBG))] [900000,900001] (fun _=>.tup []) fun r=>[(900000,.box 131 [.own 900001,Z e,.own 900002]),(900001,.tre 77 10 6 3 (r.1.map nB)),(900002,.arr 192 9 (r.2.map zBG))]:=by
 refine fcI Tryz.func54 U (A [9,106] ?_)
 refine zBT (T:=tab) a (by simp) U U U U U U U U fun q j=>pq 1 U (zEd (T:=tab) (zHN (f:=nB) (zAu j)) U U U U U U U U (A [57,6,62,5,1,8,68,9,105] ?_))
 refine zNt (ps:=[.agg [.own 900001,Z e],Z i]) [(900001,.sl 10 false ((a.map Prod.fst).map zAX))] [] (enc:=fun (n:Bool)=>Y n) (Sr:=fun (n:Bool)=>[]) (qs:=[.agg (zAD (⟨(a.map Prod.fst),e⟩:Forest)),Z i]) (Sc:=[]) (N0:=[]) (NR:=[]) zG5 trivial (fun _=>U) U U U U U U U (fun _=>U) (fun _=>U) ⟨zOg (nB) Prod.fst zAX a (fun _=>U) (fun _=>U) U,trivial⟩ U U (fun _=>U) (fun _=>by first | rfl | simp [zLh,zDM,zAB]) U U U ⟨⟨_,U,.rfl⟩,⟨_,U,.rfl⟩,trivial⟩ zeb U U fun n _=>ns (jw (zFN fu i a q) [0,1,4] [900000,900001] (fun _=>[]) (fun t=>[(900002,.arr 192 9 (t.map zBG))]) U U ?_ fun g=>?_)
 ·rintro t
  refine A [7,9,106] ?_
  refine zBT (T:=tab) a (by simp) U U U U U U U U fun s k=>pq 1 U (zT9 (T:=tab) 700035 (zHN (f:=nB) (zAu k)) U U U U U U U U U U U U U U U (A [1,44] (fun u _=>?_) zHP [(900000,700035)]))
  refine A [57,6,52,4,4,0,1,4,5,700035,900000,900001,900002,96] ?_
  refine vT [96,98,1800003] [100] [] U U (zPN (T:=tab) a (by simp) U U U U U U U U fun o _=>pzq U) (fun _=>U) (fun _=>U) fun o _=>vq 1 U (by kernel_rfl) (vS [102,1800003] [104] [] U U (zNu (T:=tab) U U U U U U U (pyq U)) U U (vq 2 U (by kernel_rfl) (vT [108] [110] [] U U (zJV (T:=tab) U U U U fun l _=>pzq U) (fun _=>U) (fun _=>U) fun l _=>A [55,5,4,104,106,110,1400071,1800003,112,104,1400071,1800003] (fun c _=>?_) zM7 [(900000,700035)] [700035])))
  refine vT [84,86,1800003] [114] [] U U (zPN (T:=tab) a (by simp) U U U U U U U U fun p b=>pzq U) (fun _=>U) (fun _=>U) fun p b=>vq 1 U (by kernel_rfl) (vS [112,116,1400071,1800003] [112,1400071,1800003] [] U U (zbi 900001 U U (zT6 (T:=tab) (zWo (zAu b)) (zTk (f:=nB) ((({s.1 with Kids:=c}:Node),true):Node×Bool) (by rfl)) U U U U U U U U U U U (pyq U))) U U (A [79,14,106] ?_))
  exact zBT (T:=tab) (a.set (q.1.Parent).toNat (({s.1 with Kids:=c}:Node),true)) (by simp) U U U U U U U U fun d h=>pq 1 U (zJ5 (T:=tab) (nB) (a.set (q.1.Parent).toNat (({s.1 with Kids:=c}:Node),true)) d ((({d.1 with Parent:=(-1)}:Node),d.2):Node×Bool) (zAu h) U U U U U U U U U U U U U U U (zF6 (zKM (T:=tab) U U U ⟨U,U⟩ ⟨U,U,U,trivial⟩ U)))
 ·refine zAE U ?_ ?_
  ·refine A [14,2,20,43] (fun v _=>?_) zHa [(900000,900000),(900001,900001),(900002,900002)] [900002]
   exact A [11,45] (g v)
  ·exact A [4,45] (g m)
def zDj (fu:Nat) (h a g:Int) (i:(List (Node×Bool))×(List Note)) (j:Node×Bool) (f:List Int):Nat->Int×(List (Node×Bool))->Option ((List (Node×Bool))×(List Note))
 | 0,_=>none
 | k1+1,(t9,l10)=>cnd (decide (t9<(f.length:Int))) (bnd (idx f t9) fun b=>bnd (idx l10 b) fun c=>bnd (rng .i64 (t9+1)) fun d=>(zDj fu h a g i j f k1) (d,(l10.set (b).toNat (({c.1 with Doc:=a}:Node),c.2)))) (bnd (zEF fu h (⟨3,0,j.1.Doc,a,[],false,false,[],[]⟩:Note) g l10 i.2) fun e=>some (l10,e))
def zGR (fu:Nat) (c a d:Int) (f:List (Node×Bool)) (g:List Note):Option ((List (Node×Bool))×(List Note)):=bnd (zDs fu c d f g) fun b=>bnd (idx b.1 c) fun e=>cnd (e.1.Doc==a) (some (b.1,b.2)) (bnd (zDu fu (⟨(b.1.map Prod.fst),d⟩:Forest) c) fun h=>(zDj fu c a d b e h) fu (0,b.1))
end Go.Proofs.YtmfbghpealgaiaaGreatDoor
