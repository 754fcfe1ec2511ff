/- Models and proofs, printed by emit2.py. -/
import Derived.Test.YtmfbghpealgaiaaGreatDoorG2
namespace Go.Proofs.YtmfbghpealgaiaaGreatDoor
open Go Go.Pw
open List renaming map_eq_nil_iff->eZ
set_option maxRecDepth 100000
set_option maxHeartbeats 10000000
set_option linter.unusedVariables false
theorem zKG {fu:Nat} {l1:List Int} {a:List Node} {b c:Int} {f:List (Int×(List (Bs×Int)))}:FF (zEm fu (fun (i:Int) (j:(List (Int×(List (Bs×Int)))))=>zA5 fu i a b c j) l1 f) 227 [.own 900000,.fn (.func 255) [] [.loc 900001 0,.loc 900002 0]] [(900000,.arr 3 1 (l1.map zAA)),(900001,.box 342 [.sl 10 false (a.map zAV),Z b,.own 900003]),(900002,.box 3 [Z c]),(900003,.mp (f.map fun p:Int×(List (Bs×Int))=>(zN5 .i64 p.1,.mpd (p.2.map fun p:Bs×Int=>(zNL p.1,Z p.2)))))] [900000,900001,900002,900003] (fun r=>Z r.1) fun r=>[(900000,.arr 3 1 (l1.map zAA)),(900001,.box 342 [.sl 10 false (a.map zAV),Z b,.own 900003]),(900002,.box 3 [Z c]),(900003,.mp (r.2.map fun p:Int×(List (Bs×Int))=>(zN5 .i64 p.1,.mpd (p.2.map fun p:Bs×Int=>(zNL p.1,Z p.2)))))]:=by
 refine fcI Tryz.func227 U (A [75,80,39,57,13] ?_)
 refine lw (zBO (fun (i:Int) (j:(List (Int×(List (Bs×Int)))))=>zA5 fu i a b c j) l1) [0,1,7] [900000,900001,900002] (fun (h,g)=>[(8,Z h)]) (fun (h,g)=>[(900003,.mp (g.map fun p:Int×(List (Bs×Int))=>(zN5 .i64 p.1,.mpd (p.2.map fun p:Bs×Int=>(zNL p.1,Z p.2)))))]) fu (0,f) U U ?_
 rintro m ⟨h,g⟩
 refine A [75,10,2,86,59,72,62,93,38] fun l d=>?_
 refine zAr (T:=tab) zAA l1 l (zAt d) U U U U U U U U (A [43] (fun k _=>?_) zJ2 [(900000,900001),(900001,900002),(900002,900003)])
 refine A [0,5,2,62,8,4,94] fun e _=>?_
 exact A [89] (tx (e,k.2))
def zAq (h:Int->(List (Int×(List (Bs×Int))))->Option (Bool×(List (Int×(List (Bs×Int)))))):Nat->Int×Int×(List Int)×(List (Int×(List (Bs×Int))))->Option ((List Int)×(List (Int×(List (Bs×Int)))))
 | 0,_=>none
 | k1+1,(i8,j9,l10,l11)=>cnd (decide (j9<(l10.length:Int))) (bnd (idx l10 j9) fun b=>bnd (h b l11) fun a=>cnd (!a.1) (bnd (idx l10 i8) fun i=>bnd (rng .i64 (i8+1)) fun c=>bnd (rng .i64 (j9+1)) fun d=>(zAq h k1) (c,d,(l10.set (i8).toNat b),a.2)) (bnd (rng .i64 (j9+1)) fun e=>(zAq h k1) (i8,e,l10,a.2))) (bnd (zVw l10 i8 (0:Int)) fun f=>bnd (piece f 0 i8) fun g=>some (g,l11))
def zCu (fu:Nat) (b:Int->(List (Int×(List (Bs×Int))))->Option (Bool×(List (Int×(List (Bs×Int)))))) (l1:List Int) (d:List (Int×(List (Bs×Int)))):Option ((List Int)×(List (Int×(List (Bs×Int))))):=bnd (zEm fu b l1 d) fun a=>cnd (a.1==(-1)) (some (l1,a.2)) (bnd (rng .i64 (a.1+1)) fun c=>(zAq b) fu (a.1,c,l1,a.2))
theorem zJi {fu:Nat} {l1:List Int} {e:List Node} {f g:Int} {t:List (Int×(List (Bs×Int)))}:FF (zCu fu (fun (q:Int) (s:(List (Int×(List (Bs×Int)))))=>zA5 fu q e f g s) l1 t) 231 [.own 900000,.fn (.func 255) [] [.loc 900001 0,.loc 900002 0]] [(900000,.arr 3 1 (l1.map zAA)),(900001,.box 342 [.sl 10 false (e.map zAV),Z f,.own 900003]),(900002,.box 3 [Z g]),(900003,.mp (t.map fun p:Int×(List (Bs×Int))=>(zN5 .i64 p.1,.mpd (p.2.map fun p:Bs×Int=>(zNL p.1,Z p.2)))))] [900001,900002,900003] (fun _=>.own 900000) fun r=>[(900000,.arr 3 1 (r.1.map zAA)),(900001,.box 342 [.sl 10 false (e.map zAV),Z f,.own 900003]),(900002,.box 3 [Z g]),(900003,.mp (r.2.map fun p:Int×(List (Bs×Int))=>(zN5 .i64 p.1,.mpd (p.2.map fun p:Bs×Int=>(zNL p.1,Z p.2)))))]:=by
 refine fcI Tryz.func231 U (A [58,61,43] (fun u _=>?_) zKG [(900000,900000),(900001,900001),(900002,900002),(900003,900003)])
 refine A [57,6,62,5,2,62,8,68,80,16] fun v _=>?_
 refine A [57,13] ?_
 refine lq (zAq (fun (q:Int) (s:(List (Int×(List (Bs×Int)))))=>zA5 fu q e f g s)) (fun ((j,j9,a,b):Int×Int×(List Int)×(List (Int×(List (Bs×Int)))))=>[(0,.own 900000),(1,.fn (.func 255) [] [.loc 900001 0,.loc 900002 0]),(5,Z j),(6,Z j9)]) (fun ((j,j9,a,b):Int×Int×(List Int)×(List (Int×(List (Bs×Int)))))=>[(900000,.arr 3 1 (a.map zAA)),(900001,.box 342 [.sl 10 false (e.map zAV),Z f,.own 900003]),(900002,.box 3 [Z g]),(900003,.mp (b.map fun p:Int×(List (Bs×Int))=>(zN5 .i64 p.1,.mpd (p.2.map fun p:Bs×Int=>(zNL p.1,Z p.2)))))]) fu (u.1,v,l1,u.2) ?_
 rintro x ⟨j,j9,a,b⟩
 refine A [6,61,39,57] ?_
 refine zAD U ?_ ?_
 ·refine A [72,61,38] fun d h=>?_
  refine zAr (T:=tab) zAA a d (zAt h) U U U U U U U U (A [57,61,43] (fun k _=>?_) zJ2 [(900000,900001),(900001,900002),(900002,900003)])
  refine A [57] ?_
  refine zAD U ?_ ?_
  ·refine A [93,38] fun o i=>?_
   refine zCg (T:=tab) zAA a o d (zAt i) U U U U U U U U U U U U U (A [0,14,1,16] fun l _=>?_)
   refine A [1,11,70,1,16] fun m _=>?_
   exact A [89] (tx (l,m,(a.set (j).toNat d),k.2))
  ·refine A [4,70,1,16] fun n _=>?_
   exact A [89] (tx (j,n,a,k.2))
 ·refine A [86,61] ?_
  refine zYG (T:=tab) zAA a (0:Int) (S':=fun c=>[(900000,.arr 3 1 (c.map zAA)),(900001,.box 342 [.sl 10 false (e.map zAV),Z f,.own 900003]),(900002,.box 3 [Z g]),(900003,.mp (b.map fun p:Int×(List (Bs×Int))=>(zN5 .i64 p.1,.mpd (p.2.map fun p:Bs×Int=>(zNL p.1,Z p.2)))))]) U U U U U U U U U U U U U U U U U U (fun _=>U) fun c _=>A [0,61] ?_
  exact zJB (T:=tab) zAA c U U U U U U U U U U U fun w _=>A [57,8]
def zHD (fu:Nat) (a:Forest) (b:Int):Option (List Int):=cnd (decide (b<0)) (some []) (cnd (decide (b>=(a.Nodes.length:Int))) (some []) (bnd (zAo fu a) fun d=>cnd (!d) (some []) (bnd (idx a.Nodes b) fun i=>bnd (zGs fu i) fun e=>cnd (!e) (some []) (bnd (zIM fu a) fun c=>bnd (zG6 fu a b) fun f=>bnd (zET fu a f) fun g=>bnd (zCu fu (fun (j:Int) (k:(List (Int×(List (Bs×Int)))))=>zA5 fu j c.Forest.Nodes c.Forest.Most b k) g c.ids) fun h=>some h.1))))
theorem zP6 {fu:Nat} {a:Forest} {b:Int}:DD (zHD fu a b) 197 [.agg (zAC a),Z b] fun r=>.sl 1 false (r.map zAA):=by
 refine fcI Tryz.func197 U (A [73,30,3,57,6,93] ?_)
 refine zAT (j:=8) U ?_ ?_
 ·refine A [120,65,58] ?_
  exact zHS 4 (q:=.sl 1 false ([].map zAA)) U .nil rN
 ·refine A [3,35,3] ?_
  refine zAT (j:=15) U ?_ ?_
  ·refine A [113,65,58] ?_
   exact zHS 4 (q:=.sl 1 false ([].map zAA)) U .nil rN
  ·refine A [1,41] (fun c _=>?_) zA4
   refine pq 3 U (zAT (j:=20) U ?_ ?_)
   ·refine A [108,65,58] ?_
    exact zHS 4 (q:=.sl 1 false ([].map zAA)) U .nil rN
   ·refine A [3,36] fun i _=>?_
    refine A [1,41] (fun d _=>?_) zLF
    refine A [2,0] ?_
    refine zAD U ?_ ?_
    ·refine A [58] ?_
     exact zHS 4 (q:=.sl 1 false ([].map zAA)) U .nil rN
    ·refine A [67,80,43] (fun e _=>?_) zOC [(4,2300)] [2300]
     refine A [31,5,12,0,6,52,3,4,2,3,5,5,2300,3,2,53,8,0,0,0,6,15,0,63,127,203,54,2,1,64,66,68] (fun f _=>?_) zNS
     refine A [55,2,2,62,68,70,4701] (fun g _=>?_) zJE [(1034,2350)] [2350]
     refine A [201,55,6,4,7,11,70,72,4601,4701,74,70,4701,4601] (fun h _=>?_) zJi [(900000,2350),(900001,5),(900002,3),(900003,2300)] [2350]
     exact A [201,79,34,2350,8]
def zHK (_fu:Nat) (b:State) (d:Desk) (a:List Class):Option (Class×Bool):=cnd (decide (b.Def<0)) (some ((⟨false,[],[],[],[]⟩:Class),false)) (cnd (decide (b.Def>=(d.Defs.length:Int))) (some ((⟨false,[],[],[],[]⟩:Class),false)) (bnd (idx d.Defs b.Def) fun c=>cnd (decide (c.Class<0)) (some ((⟨false,[],[],[],[]⟩:Class),false)) (cnd (decide (c.Class>=(a.length:Int))) (some ((⟨false,[],[],[],[]⟩:Class),false)) (bnd (idx a c.Class) fun e=>some (e,true)))))
theorem zNV {fu:Nat} {c:State} {b:Desk} {a:List Class}:DD (zHK fu c b a) 24 [.agg (zBo c),.agg (zIX b),.sl 5 false (a.map zB9)] fun r=>.tup [.agg (zB9 r.1),Y r.2]:=by
 refine fcI Tryz.func24 U (A [9,30,3,30,4,31,6,57,6,76] ?_)
 refine zAT (j:=12) U ?_ ?_
 ·refine A [107,65,9,20,92] ?_
  exact zFt 6 [Y false,.sl 1 false ([].map zR1),.sl 7 false ([].map cOp),.sl 7 false ([].map cOp),.sl 2 false ([].map zKJ)] U ⟨.rfl,.nil,.nil,.nil,.nil,trivial⟩ U rN
 ·refine A [104,35,2,0] ?_
  refine zAD U ?_ ?_
  ·refine A [9,20,92] ?_
   exact zFt 6 [Y false,.sl 1 false ([].map zR1),.sl 7 false ([].map cOp),.sl 7 false ([].map cOp),.sl 2 false ([].map zKJ)] U ⟨.rfl,.nil,.nil,.nil,.nil,trivial⟩ U rN
  ·refine A [67,76,36] fun d _=>?_
   refine A [3,0,6,93] ?_
   refine zAT (j:=30) U ?_ ?_
   ·refine A [105,65,9,20,92] ?_
    exact zFt 6 [Y false,.sl 1 false ([].map zR1),.sl 7 false ([].map cOp),.sl 7 false ([].map cOp),.sl 2 false ([].map zKJ)] U ⟨.rfl,.nil,.nil,.nil,.nil,trivial⟩ U rN
   ·refine A [2,35,2,0] ?_
    refine zAD U ?_ ?_
    ·refine A [9,20,92] ?_
     exact zFt 6 [Y false,.sl 1 false ([].map zR1),.sl 7 false ([].map cOp),.sl 7 false ([].map cOp),.sl 2 false ([].map zKJ)] U ⟨.rfl,.nil,.nil,.nil,.nil,trivial⟩ U rN
    ·refine A [67,61,36] fun e _=>?_
     exact A [1,92,8]
def zC0 (fu:Nat) (d:Int) (e:List Node) (f:List Def) (g:List Wait) (h:Int) (i:Bool) (j:List Class) (k:List State):Option (Class×Bool):=bnd (idx k d) fun b=>bnd (zHK fu b (⟨f,g,h,i⟩:Desk) j) fun a=>cnd a.2 (cnd a.1.Form (cnd (b.Phase==3) (bnd (idx e d) fun c=>some (a.1,(c.Kind==1))) (some (a.1,false))) (some (a.1,false))) (some (a.1,false))
theorem zGd {fu:Nat} {m:Int} {c:List Node} {l:Int} {e:List Def} {f:List Wait} {g:Int} {h:Bool} {i:List Class} {d:List State} {b:List Due}:FF (zC0 fu m c e f g h i d) 198 [.loc 900000 0,Z m] [(900000,.box 284 [.sl 10 false (c.map zAV),Z l,.own 900001,.sl 3 false (e.map zQC),.sl 2 false (f.map zI1),Z g,Y h,.sl 5 false (i.map zB9),.own 900002]),(900001,.arr 53 4 (d.map zBo)),(900002,.arr 171 11 (b.map zI9))] [900000,900001,900002] (fun r=>.tup [.agg (zB9 r.1),Y r.2]) fun _=>[(900000,.box 284 [.sl 10 false (c.map zAV),Z l,.own 900001,.sl 3 false (e.map zQC),.sl 2 false (f.map zI1),Z g,Y h,.sl 5 false (i.map zB9),.own 900002]),(900001,.arr 53 4 (d.map zBo)),(900002,.arr 171 11 (b.map zI9))]:=by
 refine fcI Tryz.func198 U (A [9,31,4,57,9,105,38] fun j a=>?_)
 refine zAr (T:=tab) zBo d j (zAt a) U U U U U U U U (A [31,6,12,0,6,52,4,5,0,1,4,6,6,4,900000,900001,900002,53,16,0,0,2,6,14,0,32,96,224,511,1023,2047,2047,0,12287,32767,209,54,3,1,34,42,50,52] (fun n _=>?_) zNV)
 refine vq 3 U (by kernel_rfl) (vS [] [14,15] [7] U U (zF9 (T:=tab) 7 U U U U U U U U U (pyq U)) U U (A [50,3,1,14,15,54,15,201,79,6,52,6,6,0,1,4,6,7,8,7,6,4,900000,900001,900002,53,25,0,0,2,6,14,30,62,126,254,510,1022,2046,4094,8190,16382,32766,65534,4094,262142,524286,1048574,2097150,4194302,4095,16777215,203] ?_))
 refine zBa (t:=31) U ?_ ?_
 ·refine vq 4 U (by kernel_rfl) (zBa (t:=35) U ?_ ?_)
  ·refine vq 5 U (by kernel_rfl) (zBa (t:=40) U ?_ ?_)
   ·exact vq 6 U (by kernel_rfl) (vT [80,90,92] [94] [] U U (zEu (T:=tab) zAV c U U U U U U U fun k _=>pzq U) (fun _=>U) (fun _=>U) fun k _=>A [204,50,3,1,8,9,58,9,201,79,8])
   ·exact A [211,50,3,1,8,9,58,9,201,79,8]
  ·exact A [216,50,3,1,8,9,58,9,201,79,8]
 ·exact A [220,50,3,1,8,9,58,9,201,79,8]
def zGT (a:Class):Nat->(List (Int×Hook))->Option (List (Int×Hook))
 | 0,l2=>some l2
 | k1+1,l2=>bnd (a.Hooks[k1]?) fun b=>(zGT a k1) (zGz l2 b.Kind b)
def zLR (_fu:Nat) (a:Class):Option (List (Int×Hook)):=(zGT a) a.Hooks.length ([]:(List (Int×Hook)))
theorem zSD {fu:Nat} {c:Class}:FF (zLR fu c) 60 [.agg (zB9 c)] [] [] (fun _=>.own 6) fun r=>[(6,.mp (r.map fun p:Int×Hook=>(zN5 .i64 p.1,.agg (zKJ p.2))))]:=by
 refine fcI Tryz.func60 U (fun {w0 X X0 σ0 _}=>A [9,30,1,57,9] ?_)
 refine zHx 6 U U U U U U U (A [31,3,12,0,6,61] ?_)
 refine zLd (n:=3009) tab Tryz.func107 U U U U U U U U U U U U ⟨⟨_,U,.rfl⟩,trivial⟩ zfO U U (A [0,13] ?_)
 refine zYK (T:=tab) (enc:=zKJ) (enc':=fun (a:Hook)=>.agg (zKJ a)) (xs:=c.Hooks) (x0:=([]:(List (Int×Hook)))) (n:=3009) (tS:=68) (tE:=86) (tI:=3) (tB:=4) (tF:=260) (g:=170) (M:=(zGT c)) (Sf:=fun (b:(List (Int×Hook)))=>[(3,.box 138 [.own 6]),(6,.mp (b.map fun p:Int×Hook=>(zN5 .i64 p.1,.agg (zKJ p.2))))]) (N1:=[3]) (E0:=[(3,.loc 3 0)]) (E1:=fun d a=>[(3,.loc 3 0),(10,Z ((d:Nat):Int)),(11,.agg (zKJ a)),(5,.loc 5 0)]) (S1:=fun d a (b:(List (Int×Hook)))=>[(5,.box 86 (zKJ a)),(3,.box 138 [.own 6]),(6,.mp (b.map fun p:Int×Hook=>(zN5 .i64 p.1,.agg (zKJ p.2))))]) Tryz.func170 U U U zfR U U (fun _=>U) (fun _=>U) U U ⟨U,trivial⟩ U U ⟨U,U,trivial⟩ U U U U U U ?_ ?_ ?_
 ·rintro d a b hy w0 X X0 σ0 _ _
  refine A [31,5,12,11] ?_
  exact zPM ⟨U,U,U,U,trivial⟩ ⟨U,U,U,trivial⟩ U
 ·rintro d a b hy w0 X X0 σ0 _ _
  exact zQg hy (pq 4 U (zFs (zJ9 .i64) (fun v=>.agg (zKJ v)) b a.Kind a Tryz.underlying138 Tryz.underlying3 U U U U U U U U U (A [63] (tx (zGz b a.Kind a)))))
 ·rintro b
  exact A [69,62,8]
def zF2 (fu:Nat) (b:Class) (a:Int):Option Bool:=bnd (zLR fu b) fun c=>some (zKu c a)
theorem zKH {fu:Nat} {b:Class} {a:Int}:DD (zF2 fu b a) 25 [.agg (zB9 b),Z a] fun r=>Y r:=by
 refine fcI Tryz.func25 U (A [73,57,80,43] (fun c _=>?_) zSD [(6,2090)] [2090])
 exact pq 1 U (zHw (T:=tab) (zJ9 .i64) (fun v=>.agg (zKJ v)) c a (⟨0,[]⟩:Hook) Tryz.underlying138 Tryz.underlying3 U U U U U U U U U (A [3,31,5,92,62,8]))
def zCf (fu:Nat) (e:Class) (d:Int) (c:Todo) (a:List Due):Option (List Due):=bnd (zF2 fu e c.Kind) fun b=>cnd b (bnd (zDE 104 (a.length+([(⟨d,c⟩:Due)]:List Due).length)) fun _=>some (a++[(⟨d,c⟩:Due)])) (some a)
theorem zEh {fu:Nat} {f:Class} {d:Int} {e:Todo} {g:List Node} {h:Int} {i:List Def} {j:List Wait} {k:Int} {l:Bool} {b:List Class} {c:List State} {a:List Due}:FF (zCf fu f d e a) 199 [.loc 900000 0,.agg (zB9 f),Z d,.agg (zLz e)] [(900000,.box 284 [.sl 10 false (g.map zAV),Z h,.own 900001,.sl 3 false (i.map zQC),.sl 2 false (j.map zI1),Z k,Y l,.sl 5 false (b.map zB9),.own 900002]),(900001,.arr 53 4 (c.map zBo)),(900002,.arr 171 11 (a.map zI9))] [900000,900001] (fun _=>.tup []) fun r=>[(900000,.box 284 [.sl 10 false (g.map zAV),Z h,.own 900001,.sl 3 false (i.map zQC),.sl 2 false (j.map zI1),Z k,Y l,.sl 5 false (b.map zB9),.own 900002]),(900001,.arr 53 4 (c.map zBo)),(900002,.arr 171 11 (r.map zI9))]:=by
 refine fcI Tryz.func199 U (A [9,30,5,30,7,0,93,41] (fun m _=>?_) zKH)
 refine ns (zAD U ?_ ?_)
 ·refine A [52,3,4,0,2,7,7,900000,900001,900002,53,13,0,0,2,6,14,0,0,96,224,510,1023,2047,4095,207,51,2,1,34,36,38] ?_
  refine vS [38] [40,41] [20] U U (pl ([(⟨d,e⟩:Due)].map zI9) 20 U U U U U U (pyq U)) U U (vU [32,40,41,1800001,1800005] [42,32,1800001,1800005] [900002] U U (pa zI9 a ([(⟨d,e⟩:Due)]:List Due) U U U U U U U U (zQU _) U U U (pyq U)) U U fun _ _=>A [202,50,4,1,42,46,1800001,1800005,1800001,19] ?_)
  exact zKP (T:=tab) U U U ⟨U,U⟩ ⟨U,U,U,trivial⟩ U
 ·exact zXB (zKP (T:=tab) U U U ⟨U,U⟩ ⟨U,U,U,trivial⟩ U)
def zEw (fu:Nat) (a:Unit×Bool×(List Node)×Int×(List Def)×(List Wait)×Int×Bool×(List Class)×(List State)×(List Due)) (d:List Int):Nat->Int×(List Due)->Option (List Due)
 | 0,_=>none
 | k1+1,(t8,l9)=>cnd (decide (t8<(d.length:Int))) (bnd (idx d t8) fun c=>bnd (zC0 fu c a.2.2.1 a.2.2.2.2.1 a.2.2.2.2.2.1 a.2.2.2.2.2.2.1 a.2.2.2.2.2.2.2.1 a.2.2.2.2.2.2.2.2.1 a.2.2.2.2.2.2.2.2.2.1) fun b=>cnd b.2 (bnd (zCf fu b.1 c (⟨7,0,[],false,false,[],[],0,0,false⟩:Todo) l9) fun g=>bnd (rng .i64 (t8+1)) fun e=>(zEw fu a d k1) (e,g)) (bnd (rng .i64 (t8+1)) fun f=>(zEw fu a d k1) (f,l9))) (some l9)
def zJx (fu:Nat) (d:Forest) (b:List State) (e:Desk) (a:List Class) (g:Int):Option (List Due):=bnd (zHe fu d b e a) fun c=>cnd (!c.2.1) (some []) (bnd (zHD fu d g) fun f=>(zEw fu c f) fu (0,c.2.2.2.2.2.2.2.2.2.2))
theorem zTL {fu:Nat} {i:Forest} {b:List State} {h:Desk} {a:List Class} {k:Int}:DD (zJx fu i b h a k) 132 [.agg (zAC i),.sl 4 false (b.map zBo),.agg (zIX h),.sl 5 false (a.map zB9),Z k] fun r=>.sl 11 false (r.map zI9):=by
 refine fcI Tryz.func132 U (A [9,30,5,30,7,57,76,43] (fun j _=>?_) zL6 [(17,2102200),(2130,2102201),(31708,2102202)] [2102200,2102201,2102202])
 refine A [105,0,6,62] ?_
 refine zAD U ?_ ?_
 ·refine A [58] ?_
  exact zHS 10 (q:=.sl 11 false ([].map zI9)) U .nil rN
 ·refine A [68,99] (fun m _=>?_) zP6
  refine A [77,13] ?_
  refine lw (zEw fu j m) [11,29,30] [2102200,2102201] (fun (g,c)=>[(31,Z g)]) (fun (g,c)=>[(2102202,.arr 171 11 (c.map zI9))]) fu (0,j.2.2.2.2.2.2.2.2.2.2) U U ?_
  rintro o ⟨g,c⟩
  refine A [75,10,7,86,9,105,0,34,2102202,8,72,9,36] fun n _=>?_
  refine A [2,0,61,44] (fun l _=>?_) zGd [(900000,2102200),(900001,2102201),(900002,2102202)]
  refine A [3,31,15,92,58] ?_
  refine zAD U ?_ ?_
  ·refine A [14,3,20,43] (fun f _=>?_) zEh [(900000,2102200),(900001,2102201),(900002,2102202)] [2102202]
   refine A [11,94] fun d _=>?_
   exact A [89] (tx (d,f))
  ·refine A [4,94] fun e _=>?_
   exact A [89] (tx (e,c))
def zH0 (fu:Nat) (g:Forest) (a:List State) (f:Desk) (b:List Class) (d:Int) (i:Bs):Option (List Due):=bnd (zHe fu g a f b) fun c=>cnd (!c.2.1) (some []) (cnd (decide (d<0)) (some []) (cnd (decide (d>=(a.length:Int))) (some []) (bnd (zC0 fu d c.2.2.1 c.2.2.2.2.1 c.2.2.2.2.2.1 c.2.2.2.2.2.2.1 c.2.2.2.2.2.2.2.1 c.2.2.2.2.2.2.2.2.1 c.2.2.2.2.2.2.2.2.2.1) fun e=>cnd e.2 (bnd (zCf fu e.1 d (⟨8,0,[],false,false,[],i,0,0,false⟩:Todo) c.2.2.2.2.2.2.2.2.2.2) fun h=>some h) (some c.2.2.2.2.2.2.2.2.2.2))))
theorem zQp {fu:Nat} {d:Forest} {b:List State} {c:Desk} {a:List Class} {e:Int} {f:Bs}:DD (zH0 fu d b c a e f) 133 [.agg (zAC d),.sl 4 false (b.map zBo),.agg (zIX c),.sl 5 false (a.map zB9),Z e,O f] fun r=>.sl 11 false (r.map zI9):=by
 refine fcI Tryz.func133 U (A [9,30,6,30,8,57,76,43] (fun g _=>?_) zL6 [(17,2102200),(2130,2102201),(31708,2102202)] [2102200,2102201,2102202])
 refine A [105,0,6,93] ?_
 refine zAT (j:=27) U ?_ ?_
 ·refine A [109,65,58] ?_
  exact zHS 12 (q:=.sl 11 false ([].map zI9)) U .nil rN
 ·refine pq 4 U (zAT (j:=31) U ?_ ?_)
  ·refine A [105,65,58] ?_
   exact zHS 12 (q:=.sl 11 false ([].map zI9)) U .nil rN
  ·refine A [2,35,2,0] ?_
   refine zAD U ?_ ?_
   ·refine A [58] ?_
    exact zHS 12 (q:=.sl 11 false ([].map zI9)) U .nil rN
   ·refine A [68,61,44] (fun h _=>?_) zGd [(900000,2102200),(900001,2102201),(900002,2102202)]
    refine A [3,31,15,92,58,10,7,67,9,105,0,34,2102202,8,14,104,20,43] (fun i _=>?_) zEh [(900000,2102200),(900001,2102201),(900002,2102202)] [2102202]
    exact A [0,9,105,0,34,2102202,8]
def zEg (fu:Nat) (b:Op) (a:zAK):Option (Int×Bool×zAK):=bnd (idx a.World.Forest.Nodes b.A) fun e=>cnd (b.Kind==17) (bnd (zIe fu b.S a) fun f=>some (f.1,true,f.2)) (cnd (b.Kind==18) (bnd (zJy fu a.World.Forest b.A a.World.Desk) fun i=>bnd (zCh fu (fun l=>zCk fu l a) i) fun j=>bnd (zBU fu j a) fun g=>some (g.1,true,g.2)) (cnd (b.Kind==23) (cnd (e.Kind != 1) (some (5,true,a)) (cnd (!(e.Name==([102,111,114,109]:Bs))) (some (5,true,a)) (bnd (zJx fu a.World.Forest a.World.States a.World.Desk a.World.Classes b.A) fun k=>bnd (zBU fu k a) fun h=>some (h.1,true,h.2)))) (cnd (b.Kind==24) (cnd (e.Kind != 1) (some (5,true,a)) (bnd (zH0 fu a.World.Forest a.World.States a.World.Desk a.World.Classes b.A b.S) fun d=>bnd (zBU fu d a) fun c=>some (c.1,true,c.2))) (some (0,false,a)))))
theorem zP1 {fu:Nat} {b:Op} {a:zAK}:FF (zEg fu b a) 83 [.loc 900000 0,.agg (cOp b)] [(900000,.box 99 (zB2 a))] [900000] (fun r=>.tup [Z r.1,Y r.2.1]) fun r=>[(900000,.box 99 (zB2 r.2.2))]:=by
 refine fcI Tryz.func83 U (A [73,30,3,2,0,6,52,2,3,2,3,3,2,900000,53,12,0,1,3,7,15,31,0,64,255,511,0,2047,208] ?_)
 refine vT [26,30] [32] [] U U (zEu (T:=tab) zAV a.World.Forest.Nodes U U U U U U U fun f _=>pzq U) (fun _=>U) (fun _=>U) fun f _=>vq 1 U (by kernel_rfl) (vS [] [12,13] [6] U U (zF9 (T:=tab) 6 U U U U U U U U U (pyq U)) U U (A [50,3,1,12,13,34,13,79,6,62,13,62] ?_))
 refine zAD U ?_ ?_
 ·refine A [93,43] (fun g _=>?_) zOy [(900000,900000)]
  exact A [2,74]
 ·refine A [62] ?_
  refine zAD U ?_ ?_
  ·refine A [6,52,2,3,2,3,3,2,900000,53,14,0,1,3,7,15,0,32,0,128,384,896,1920,4095,8191,212,55,3,2,64,68,78,80,4801] (fun h _=>?_) zTN [(1027,2400)] [2400]
   refine A [201,79,6,52,2,3,2,7,2400,2,900000,53,7,0,0,0,6,15,31,63,203,55,6,4,5,14,84,86,4801,1800001,88,14,84,4801] (fun i _=>?_) zJM [(900000,2400),(900001,2),(900002,900000)] [2400]
   exact vT [82,88,4801,1800001] [90,88,4801,1800001] [] U U (zGX 2400 U U U (tqG (rn:=[(900000,900000)]) (ks:=[]) ⟨zEv⟩ U U U U U U U U fun e _=>pzq U)) (fun _=>U) (fun _=>U) fun e _=>A [202,79,8]
  ·refine A [62] ?_
   refine zAD U ?_ ?_
   ·refine A [6,76,26,51,4,104,65,62,8,104,0,5,2,62,8,68,52,2,3,2,3,3,2,900000,53,27,0,0,2,6,14,30,0,64,192,448,960,0,2048,6144,14336,30720,0,65536,196608,458752,983040,0,2097152,8388606,16777215,33554431,67108863,223,54,5,1,122,132,142,152,156,158] (fun j _=>?_) zTL
    refine A [55,3,2,112,158,1800001,160,1800001] (fun k _=>?_) zEv [(900000,900000)]
    exact A [202,79,8]
   ·refine A [62,10,4,4,69,62,8,6,93,0,5,2,62,8,68,52,2,3,2,3,3,2,900000,53,29,0,0,2,6,14,30,0,64,192,448,960,0,2048,6144,14336,30720,0,65536,196608,458752,983040,0,2097152,0,8388608,33554430,67108863,134217727,268435455,225,54,6,1,182,192,202,212,216,220,222] (fun c _=>?_) zQp
    refine A [55,3,2,172,222,1800001,224,1800001] (fun d _=>?_) zEv [(900000,900000)]
    exact A [202,79,8]
def zAb (_fu:Nat) (a:List Attr):Option (List Attr):=bnd (zDE 32 (([]:List Attr).length+a.length)) fun _=>some (([]:List Attr)++a)
theorem zBk {fu:Nat} {a:List Attr}:FF (zAb fu a) 102 [.sl 2 false (a.map zD0)] [] [] (fun _=>.own 5) fun r=>[(5,.arr 198 2 (r.map zD0))]:=by
 refine fcI Tryz.func102 U (A [75,80] ?_)
 refine zH8 (T:=tab) U U U U U U fun b d=>?_
 cases b
 ·refine A [0,23,67,9] ?_
  exact pl (([]:List Attr).map zD0) 5 U U U U U U (pq 1 U (pa zD0 ([]:List Attr) a U U U U U U U U (zRA _) U U U (A [57,8])))
 ·have c:a=[]:=eZ.1 (d rfl)
  exact zKR (m':=some ([]:List Attr)) (by subst c;rfl) (A [0,25,58,56,5,198,2,2,8])
def zAn (_fu:Nat) (a:List Node):Option (List Node):=bnd (zDE 136 (([]:List Node).length+a.length)) fun _=>some (([]:List Node)++a)
theorem zBl {fu:Nat} {a:List Node}:FF (zAn fu a) 153 [.sl 10 false (a.map zAV)] [] [] (fun _=>.own 5) fun r=>[(5,.arr 77 10 (r.map zAV))]:=by
 refine fcI Tryz.func153 U (A [75,80] ?_)
 refine zH8 (T:=tab) U U U U U U fun b d=>?_
 cases b
 ·refine A [0,23,67,9] ?_
  exact pl (([]:List Node).map zAV) 5 U U U U U U (pq 1 U (pa zAV ([]:List Node) a U U U U U U U U (zOP _) U U U (A [57,8])))
 ·have c:a=[]:=eZ.1 (d rfl)
  exact zKR (m':=some ([]:List Node)) (by subst c;rfl) (A [0,25,58,56,5,77,10,2,8])
def zGP (fu:Nat) (a:Forest) (b c:Node) (d:Int):Option (Forest×Int×Int):=bnd (zAb fu b.Attrs) fun f=>bnd (zCm fu (⟨a⟩:zAL)) fun h=>cnd (!h) (some (a,(-1),1)) (bnd (zGQ fu ({c with Name:=b.Name,Is:=b.Is,Data:=b.Data,Attrs:=f,Doc:=d}:Node)) fun i=>cnd (!i) (some (a,(-1),1)) (cnd (c.Kind==4) (some (a,(-1),1)) (cnd (c.Kind != 0) (bnd (zC8 fu (⟨a⟩:zAL) d 0) fun j=>cnd (!j) (some (a,(-1),1)) (cnd ((a.Nodes.length:Int)==a.Most) (some (a,(-1),8)) (bnd (zAn fu a.Nodes) fun g=>bnd (zDE 136 (g.length+([({c with Name:=b.Name,Is:=b.Is,Data:=b.Data,Attrs:=f,Doc:=d}:Node)]:List Node).length)) fun _=>some ((⟨(g++[({c with Name:=b.Name,Is:=b.Is,Data:=b.Data,Attrs:=f,Doc:=d}:Node)]),a.Most⟩:Forest),(a.Nodes.length:Int),0)))) (cnd ((a.Nodes.length:Int)==a.Most) (some (a,(-1),8)) (bnd (zAn fu a.Nodes) fun e=>bnd (zDE 136 (e.length+([({c with Name:=b.Name,Is:=b.Is,Data:=b.Data,Attrs:=f,Doc:=d}:Node)]:List Node).length)) fun _=>some ((⟨(e++[({c with Name:=b.Name,Is:=b.Is,Data:=b.Data,Attrs:=f,Doc:=d}:Node)]),a.Most⟩:Forest),(a.Nodes.length:Int),0))))))
def zDF (fu:Nat) (b:Forest) (a:Node):Option (Forest×Int×Int):=bnd (zIv fu a.Kind a.Doc) fun c=>cnd (a.Kind==0) ((zGP fu b a c) (b.Nodes.length:Int)) ((zGP fu b a c) c.Doc)
theorem zH1 {fu:Nat} {e:Forest} {a:Node}:DD (zDF fu e a) 200 [.agg (zAC e),.agg (zAV a)] fun r=>.tup [.agg (zAC r.1),Z r.2.1,Z r.2.2]:=by
 refine fcI Tryz.func200 U (A [73,30,3,31,4,2,0,61,77,76,41] (fun b _=>?_) zNT)
 refine A [31,8,12,0,6,93,0] ?_
 refine jw (zGP fu e a b) [2,3,4,7,8] [4,3,2] (fun _=>[]) (fun c=>[(8,.box 77 [Z b.Kind,O b.Name,O b.Is,O b.Data,.sl 2 false (b.Attrs.map zD0),Z b.Parent,.sl 1 false (b.Kids.map zAA),Z b.Host,Z b.Under,Z c])]) U U ?_ fun d=>?_
 ·rintro c
  refine A [7,6,52,5,4,2,3,4,7,8,8,4,3,2,53,17,0,1,0,4,0,16,0,64,192,3,963,1999,4047,8191,16383,32767,65535,208,55,1,2,60,62,4621] (fun f _=>?_) zBk [(5,2310)] [2310]
  refine A [201,50,3,1,17,48,64,17,201,50,3,1,17,52,66,17,201,50,3,1,17,56,68,17,201,50,4,1,17,62,70,4621,17,79,80,20,31,9,12,0,6,13,80,41] (fun i _=>?_) zGF
  refine A [2,26,42,6,122,65,80,12,2,74,1,33,2310,41] (fun k _=>?_) zL8
  refine A [3,26,47,6,117,65,80,12,2,74,105,26,52,6,112,65,80,12,2,74,104] ?_
  refine zAT (j:=56) U ?_ ?_
  ·refine A [3,41] (fun l _=>?_) zFx
   refine A [104,0,5,4,80,12,2,74,9,105,0,5,4,80,12,2,74,4,69,6,52,4,3,2,4,7,8,8,4,2,53,8,0,1,3,0,8,31,63,127,202,55,1,2,144,146,5461] (fun h _=>?_) zBl [(5,2730)] [2730]
   exact vq 1 U (by kernel_rfl) (vS [148] [150,151] [75] U U (pl ([({b with Name:=a.Name,Is:=a.Is,Data:=a.Data,Attrs:=f,Doc:=c}:Node)].map zAV) 75 U U U U U U (pyq U)) U U (vU [146,150,151,5461] [152,146,5461] [2730] U U (pa zAV h ([({b with Name:=a.Name,Is:=a.Is,Data:=a.Data,Attrs:=f,Doc:=c}:Node)]:List Node) U U U U U U U U (zOP _) U U U (pyq U)) U U fun _ _=>A [201,50,4,1,5,152,154,5461,5,79,61,12,2,0,34,2730,8]))
  ·refine A [108,11,24,9,105,0,5,4,80,12,2,74,4,69,6,52,4,3,2,4,7,8,8,4,2,53,8,0,1,3,0,8,31,63,127,202,55,1,2,144,146,5461] (fun g _=>?_) zBl [(5,2730)] [2730]
   exact vq 1 U (by kernel_rfl) (vS [148] [150,151] [75] U U (pl ([({b with Name:=a.Name,Is:=a.Is,Data:=a.Data,Attrs:=f,Doc:=c}:Node)].map zAV) 75 U U U U U U (pyq U)) U U (vU [146,150,151,5461] [152,146,5461] [2730] U U (pa zAV g ([({b with Name:=a.Name,Is:=a.Is,Data:=a.Data,Attrs:=f,Doc:=c}:Node)]:List Node) U U U U U U U U (zOP _) U U U (pyq U)) U U fun _ _=>A [201,50,4,1,5,152,154,5461,5,79,61,12,2,0,34,2730,8]))
 ·refine zAD U ?_ ?_
  ·exact A [14,2,12,11,45] (d (e.Nodes.length:Int))
  ·exact A [4,45] (d b.Doc)
def zC7 (fu:Nat) (a:Node) (b:zAK):Option (zBV×zAK):=bnd (idx b.World.Forest.Nodes a.Doc) fun k=>cnd (k.Kind != 0) (some ((⟨(⟨[],0⟩:Forest),[],5⟩:zBV),b)) (bnd (zFz fu a.Name) fun g=>cnd (a.Kind==1) (cnd (g.2 != 0) (some ((⟨(⟨[],0⟩:Forest),[],4⟩:zBV),b)) (cnd (!(a.Is==([]:Bs))) (bnd (zCs fu a.Is) fun h=>cnd (!h) (some ((⟨(⟨[],0⟩:Forest),[],4⟩:zBV),b)) (bnd (zEC fu a.Name) fun i=>bnd (zDF fu b.World.Forest ({a with Name:=i}:Node)) fun e=>some ((⟨e.1,[],e.2.2⟩:zBV),(⟨b.World,e.2.1⟩:zAK)))) (bnd (zEC fu a.Name) fun j=>bnd (zDF fu b.World.Forest ({a with Name:=j}:Node)) fun f=>some ((⟨f.1,[],f.2.2⟩:zBV),(⟨b.World,f.2.1⟩:zAK))))) (bnd (zEC fu a.Name) fun d=>bnd (zDF fu b.World.Forest ({a with Name:=d}:Node)) fun c=>some ((⟨c.1,[],c.2.2⟩:zBV),(⟨b.World,c.2.1⟩:zAK))))
theorem zHc {fu:Nat} {e:Node} {b:zAK}:FF (zC7 fu e b) 134 [.loc 900000 0,.agg (zAV e)] [(900000,.box 99 (zB2 b))] [900000] (fun r=>.agg (zMk r.1)) fun r=>[(900000,.box 99 (zB2 r.2))]:=by
 refine fcI Tryz.func134 U (A [9,30,3,31,4,0,6,6,52,3,3,0,3,4,4,3,900000,53,12,0,1,3,7,15,31,0,64,255,511,1023,2047,208] ?_)
 refine vT [30,34] [36] [] U U (zEu (T:=tab) zAV b.World.Forest.Nodes U U U U U U U fun g _=>pzq U) (fun _=>U) (fun _=>U) fun g _=>A [203,79] ?_
 refine zAD U ?_ ?_
 ·refine A [9,20,12,0] ?_
  exact zFt 4 [.sl 10 false ([].map zAV),Z 0,.sl 9 false ([].map zBF),Z 5] U ⟨.nil,.rfl,.nil,.rfl,trivial⟩ U rN
 ·refine A [67,99] (fun h _=>?_) zHi
  refine A [105,0,6,76] ?_
  refine zAT (j:=32) U ?_ ?_
  ·refine pq 3 U (zAT (j:=35) U ?_ ?_)
   ·refine A [111,65,9,20,12,0] ?_
    exact zFt 4 [.sl 10 false ([].map zAV),Z 0,.sl 9 false ([].map zBF),Z 4] U ⟨.nil,.rfl,.nil,.rfl,trivial⟩ U rN
   ·refine pq 4 U (zAT (j:=39) U ?_ ?_)
    ·refine A [2,41] (fun i _=>?_) zEX
     refine A [104,0] ?_
     refine zAD U ?_ ?_
     ·refine A [9,20,12,0] ?_
      exact zFt 4 [.sl 10 false ([].map zAV),Z 0,.sl 9 false ([].map zBF),Z 4] U ⟨.nil,.rfl,.nil,.rfl,trivial⟩ U rN
     ·refine A [67,99] (fun k _=>?_) zHB
      refine A [1,12,0,6,88,206,54,2,1,114,116,118] (fun c _=>?_) zH1
      refine vq 4 U (by kernel_rfl) (vS [] [14,15] [7] U U (zF9 (T:=tab) 7 U U U U U U U U U (pyq U)) U U (A [50,3,1,14,15,120,15,202,79,76,12,0,61,20,12,0] ?_))
      exact zFt 4 [.sl 10 false (c.1.Nodes.map zAV),Z c.1.Most,.sl 9 false ([].map zBF),Z c.2.2] U ⟨.rfl,.rfl,.nil,.rfl,trivial⟩ U rN
    ·refine A [107,11,24,67,99] (fun l _=>?_) zHB
     refine A [1,12,0,6,88,206,54,2,1,114,116,118] (fun d _=>?_) zH1
     refine vq 4 U (by kernel_rfl) (vS [] [14,15] [7] U U (zF9 (T:=tab) 7 U U U U U U U U U (pyq U)) U U (A [50,3,1,14,15,120,15,202,79,76,12,0,61,20,12,0] ?_))
     exact zFt 4 [.sl 10 false (d.1.Nodes.map zAV),Z d.1.Most,.sl 9 false ([].map zBF),Z d.2.2] U ⟨.rfl,.rfl,.nil,.rfl,trivial⟩ U rN
  ·refine A [114,11,24,67,99] (fun f _=>?_) zHB
   refine A [1,12,0,6,88,206,54,2,1,114,116,118] (fun a _=>?_) zH1
   refine vq 4 U (by kernel_rfl) (vS [] [14,15] [7] U U (zF9 (T:=tab) 7 U U U U U U U U U (pyq U)) U U (A [50,3,1,14,15,120,15,202,79,76,12,0,61,20,12,0] ?_))
   exact zFt 4 [.sl 10 false (a.1.Nodes.map zAV),Z a.1.Most,.sl 9 false ([].map zBF),Z a.2.2] U ⟨.rfl,.rfl,.nil,.rfl,trivial⟩ U rN
def zLH (_fu:Nat):Option (List Bs):=some [[100,105,118],[112],[115,112,97,110]]
theorem zSB {fu:Nat}:DD (zLH fu) 201 [] fun r=>.sl 1 false (r.map zR1):=by
 refine fcI Tryz.func201 U (A [58,9] ?_)
 exact pl ([[100,105,118],[112],[115,112,97,110]].map zR1) 1 U U U U U U (A [57,34,1,8])
def zFk (fu:Nat) (a:Forest) (b:Int) (c:Node) (f:Unit):Option (Forest×Int×Int):=cnd (c.Under != (-1)) (some (a,(-1),10)) (cnd ((a.Nodes.length:Int)==a.Most) (some (a,(-1),8)) (bnd (zAn fu a.Nodes) fun d=>bnd (zDE 136 (d.length+([(⟨4,[],[],[],[],(-1),[],b,(-1),c.Doc⟩:Node)]:List Node).length)) fun _=>bnd (idx (d++[(⟨4,[],[],[],[],(-1),[],b,(-1),c.Doc⟩:Node)]) b) fun e=>some ((⟨((d++[(⟨4,[],[],[],[],(-1),[],b,(-1),c.Doc⟩:Node)]).set (b).toNat ({e with Under:=(a.Nodes.length:Int)}:Node)),a.Most⟩:Forest),(a.Nodes.length:Int),0)))
def zH3 (fu:Nat) (a:Forest) (c:Int):Option (Forest×Int×Int):=bnd (zB4 fu a [c]) fun d=>cnd (!d) (some (a,(-1),1)) (bnd (idx a.Nodes c) fun b=>cnd (b.Kind != 1) (some (a,(-1),5)) (bnd (zCs fu b.Name) fun e=>cnd (!e) (bnd (zLH fu) fun f=>bnd (zA6 fu f b.Name) fun g=>cnd (!g) (some (a,(-1),5)) ((zFk fu a c b) ())) ((zFk fu a c b) ())))
theorem zQ2 {fu:Nat} {c:Forest} {a:Int}:DD (zH3 fu c a) 135 [.agg (zAC c),Z a] fun r=>.tup [.agg (zAC r.1),Z r.2.1,Z r.2.2]:=by
 refine fcI Tryz.func135 U (A [73,31,4,2,0,6,61] ?_)
 refine pl ([a].map zAA) 11 U U U U U U (A [33,11,41] (fun i _=>?_) zH4)
 refine A [57,5,4,80,12,2,74,67,93,36] fun b _=>?_
 refine A [1,31,7,12,0,6,13,6,52,4,3,1,2,4,7,7,4,2,53,17,0,1,3,7,15,31,63,127,255,511,511,1535,4095,8191,16383,32767,65535] ?_
 refine zbT (zFk fu c a b) (fun (_:Unit)=>[(1,Z a),(2,.loc 2 0),(4,.loc 4 0),(7,.loc 7 0)]) (fun (_:Unit)=>[(7,.box 77 (zAV b)),(4,.box 24 [.v (.slice none 0 0),Z 0]),(2,.box 24 (zAC c))]) ?_ fun d=>?_
 ·rintro _
  refine A [76,0,5,4,80,12,2,74,61,35,104,0,5,4,80,12,2,74,4,69,61,77,6,52,5,3,1,2,4,7,8,7,4,2,53,11,0,1,3,0,0,16,56,120,255,511,1023,202,55,1,2,110,112,5121] (fun g _=>?_) zBl [(5,2560)] [2560]
  refine A [203,51,2,1,114,118,120] ?_
  refine vS [120] [122,120,123] [61] U U (zbY 60 U (.agg (ds:=[Z 4,O [],O [],O [],.sl 2 false ([].map zD0),Z (-1),.sl 1 false ([].map zAA),Z a,Z (-1),Z b.Doc]) ⟨.rfl,.rfl,.rfl,.rfl,.nil,.rfl,.nil,.rfl,.rfl,.rfl,trivial⟩) (pl ([(⟨4,[],[],[],[],(-1),[],a,(-1),b.Doc⟩:Node)].map zAV) 61 U U U U U U (pyq U))) U U (vU [112,122,123,5121] [124,112,5121] [2560] U U (pa zAV g ([(⟨4,[],[],[],[],(-1),[],a,(-1),b.Doc⟩:Node)]:List Node) U U U U U U U U (zOP _) U U U (pyq U)) U U fun _ _=>A [201,50,4,1,5,124,126,5121,5,79,76,38] fun h e=>?_)
  exact pq 1 U (zCg (T:=tab) zAV (g++[(⟨4,[],[],[],[],(-1),[],a,(-1),b.Doc⟩:Node)]) h ({h with Under:=(c.Nodes.length:Int)}:Node) (zAt e) U U U U U U U U U U U U U (A [0,61,12,2,0,34,2560,8]))
 ·refine vq 4 U (by kernel_rfl) (zBa (t:=24) U ?_ ?_)
  ·exact A [213,19,18,80,12,2,74]
  ·refine A [202,54,2,1,48,52,54] (fun j _=>?_) zEX
   refine vq 2 U (by kernel_rfl) (zBa (t:=29) U ?_ ?_)
   ·refine vT [58] [60] [] U U (zKQ (enc:=fun (f:(List Bs))=>.sl 1 false (f.map zR1)) (qs:=[]) zSB U U trivial (fun _=>U) zfV U U fun f _=>pzq U) (fun _=>U) (fun _=>U) fun f _=>A [202,54,3,1,58,60,64,66] (fun k _=>?_) zCt
    refine A [204,79,5,4,80,12,2,74] ?_
    exact zXC (d ()) ⟨U,U,U,U,trivial⟩ ⟨U,U,U,trivial⟩ U
   ·refine A [208,19,24] ?_
    exact zXC (d ()) ⟨U,U,U,U,trivial⟩ ⟨U,U,U,trivial⟩ U
def zFT (_fu:Nat) (a:Int) (b:Forest):Option Bool:=cnd (decide (a<0)) (some true) (some (decide (a>=(b.Nodes.length:Int))))
theorem zQ4 {fu:Nat} {b:Int} {a:Forest}:FF (zFT fu b a) 257 [Z b,.loc 900000 0] [(900000,.box 24 (zAC a))] [900000] (fun r=>Y r) fun _=>[(900000,.box 24 (zAC a))]:=by
 exact fcI Tryz.func257 U (A [58,93,26,6,2,107,74,3,35,3,74])
theorem zJm {fu:Nat} {b:List Int} {a:Forest}:FF (zAS fu (fun c=>zFT fu c a) b) 227 [.sl 1 false (b.map zAA),.fn (.func 257) [] [.loc 900000 0]] [(900000,.box 24 (zAC a))] [900000] (fun r=>Z r) fun _=>[(900000,.box 24 (zAC a))]:=by
 refine fcI Tryz.func227 U (A [75,80,77,13] ?_)
 refine lw (zAJ (fun c=>zFT fu c a) b) [0,1,7] [900000] (fun d=>[(8,Z d)]) (fun _=>[]) fu 0 U U ?_
 rintro f d
 refine A [75,10,2,86,59,72,62,93,36] fun h _=>?_
 refine A [1,44] (fun g _=>?_) zQ4 [(900000,900000)]
 refine A [0,5,2,62,8,4,94] fun e _=>?_
 exact A [89] (tx e)
theorem zIi {fu:Nat} {b:List Int} {a:Forest}:FF (zAY fu (fun c=>zFT fu c a) b) 156 [.sl 1 false (b.map zAA),.fn (.func 257) [] [.loc 900000 0]] [(900000,.box 24 (zAC a))] [900000] (fun r=>Y r) fun _=>[(900000,.box 24 (zAC a))]:=by
 refine fcI Tryz.func156 U (A [58,61,44] (fun d _=>?_) zJm [(900000,900000)])
 exact A [2,74]
def zEs (fu:Nat) (a:Forest) (l2:List Int):Option Bool:=bnd (zAo fu a) fun b=>cnd b (bnd (zAY fu (fun d=>zFT fu d a) l2) fun c=>some (!c)) (some false)
theorem zHI {fu:Nat} {a:Forest} {l2:List Int}:DD (zEs fu a l2) 202 [.agg (zAC a),.sl 1 false (l2.map zAA)] fun r=>Y r:=by
 refine fcI Tryz.func202 U (A [73,57,80,41] (fun b _=>?_) zA4)
 refine A [1,27,7,2,106,74,2,44] (fun c _=>?_) zIi [(900000,2)]
 exact A [3,74]
def zKe (fu:Nat) (b:Forest) (a:Int):Option Bool:=bnd (zEs fu b [a]) fun c=>cnd c (bnd (idx b.Nodes a) fun d=>some (d.Kind==0)) (some false)
theorem zQ3 {fu:Nat} {b:Forest} {a:Int}:DD (zKe fu b a) 203 [.agg (zAC b),Z a] fun r=>Y r:=by
 refine fcI Tryz.func203 U (A [73,57,61] ?_)
 refine pl ([a].map zAA) 7 U U U U U U (A [33,7,41] (fun c _=>?_) zHI)
 refine A [1,27,9,2,109,74,3,36] fun d _=>?_
 exact A [105,74]
def zHo (_fu:Nat) (c:Int) (d e f:Bs) (g:List Attr) (h i j k:Int) (a:List (Node×Bool)):Option (Int×(List (Node×Bool))):=bnd (zDE 136 (a.length+1)) fun _=>bnd (rng .i64 ((((a++[((⟨c,d,e,f,g,h,[],i,j,k⟩:Node),true)]).length:Nat):Int) - 1)) fun b=>some (b,(a++[((⟨c,d,e,f,g,h,[],i,j,k⟩:Node),true)]))
theorem zOF {fu:Nat} {b:Int} {c d e:Bs} {f:List Attr} {g h i j k:Int} {c11:Bool} {a:List (Node×Bool)}:FF (zHo fu b c d e f g h i j a) 281 [.loc 900000 0,.agg [Z b,O c,O d,O e,.sl 2 false (f.map zD0),Z g,.v (.slice none 0 0),Z h,Z i,Z j]] [(900000,.box 288 [.own 900001,Z k,Y c11]),(900001,.tre 77 10 6 3 (a.map nB))] [900000] (fun r=>Z r.1) fun r=>[(900000,.box 288 [.own 900001,Z k,Y c11]),(900001,.tre 77 10 6 3 (r.2.map nB))]:=by
 refine fcI Tryz.func281 U (A [9,30,3,57,6,52,2,3,0,3,3,900000,900001,53,13,0,0,2,6,14,30,0,64,254,511,1023,2047,4095,207] ?_)
 refine vS [22] [24,25] [12] U U (pl ([[Z b,O c,O d,O e,.sl 2 false (f.map zD0),Z g,.v (.slice none 0 0),Z h,Z i,Z j]]) 12 U U U U U U (pyq U)) U U (vU [20,24,25,1800001,1800003] [26,20,1800001,1800003] [900001] U U (zUA (T:=tab) a.length [Z b,O c,O d,O e,.sl 2 false (f.map zD0),Z g,.v (.slice none 0 0),Z h,Z i,Z j] (zAV (⟨b,c,d,e,f,g,[],h,i,j⟩:Node),true) 1 (by simp) (zco (nB) a ((⟨b,c,d,e,f,g,[],h,i,j⟩:Node),true)) (.inr ⟨U,U,U⟩) U U U U U U U U U U U U U U U U U U U U (pyq U)) U U fun _ _=>A [203,50,4,1,26,32,1800001,1800003,1800001,79,9,105] ?_)
 refine zMz (T:=tab) (l:=(a++[((⟨b,c,d,e,f,g,[],h,i,j⟩:Node),true)]).length) U U U U U U U (by simp) U U (A [16] fun m _=>?_)
 exact A [57,8]
def zCE (fu:Nat) (j1:zBb) (l4:List (Node×Bool)) (d:Node×Bool) (e:List Attr) (f:Int×Int):Option (Int×Int×(List (Node×Bool))):=match f with
 | (c7,c)=>bnd (zHo fu c7 d.1.Name d.1.Is d.1.Data e j1.under (-1) (-1) c l4) fun b=>cnd (j1.under != (-1)) (bnd (idx b.2 j1.under) fun a=>bnd (zSL a.2) fun _=>bnd (zDE 8 (a.1.Kids.length+([b.1]:List Int).length)) fun _=>bnd (idx b.2 j1.under) fun g=>some (b.1,c,(b.2.set (j1.under).toNat (({a.1 with Kids:=(a.1.Kids++[b.1])}:Node),true)))) (some (b.1,c,b.2))
def zEe (fu:Nat) (j1:zBb) (l4:List (Node×Bool)):Option (Int×Int×(List (Node×Bool))):=bnd (idx l4 j1.n) fun a=>bnd (zPo a.2) fun _=>bnd (zAb fu a.1.Attrs) fun b=>cnd (a.1.Kind==0) ((zCE fu j1 l4 a b) (a.1.Kind,(l4.length:Int))) (cnd (a.1.Kind==4) ((zCE fu j1 l4 a b) (3,j1.doc)) ((zCE fu j1 l4 a b) (a.1.Kind,j1.doc)))
theorem zMK {fu:Nat} {j1:zBb} {j:Int} {k:Bool} {l4:List (Node×Bool)}:FF (zEe fu j1 l4) 259 [.loc 900000 0,.agg (zGU j1)] [(900000,.box 288 [.own 900001,Z j,Y k]),(900001,.tre 77 10 6 3 (l4.map nB))] [900000] (fun r=>.tup [Z r.1,Z r.2.1]) fun r=>[(900000,.box 288 [.own 900001,Z j,Y k]),(900001,.tre 77 10 6 3 (r.2.2.map nB))]:=by
 refine fcI Tryz.func259 U (A [9,30,3,2,0,6,52,2,3,0,3,3,900000,900001,53,11,0,1,3,7,15,0,32,127,255,0,1023,207] ?_)
 refine vT [26,30,1800003] [32] [] U U (zBP (T:=tab) l4 (by simp) U U U U U U U U fun e g=>pzq U) (fun _=>U) (fun _=>U) fun e g=>vU [32,1800003] [34] [] U U (zN1 (T:=tab) (zHU (f:=nB) (zAt g)) U U U U U U U U (pyq U)) U U fun _ _=>vS [] [12,13] [6] U U (zF9 (T:=tab) 6 U U U U U U U U U (pyq U)) U U (A [50,3,1,12,13,34,13,79,6,52,3,4,0,3,6,6,3,900000,900001,53,18,0,1,0,4,0,16,0,64,0,256,768,0,2048,0,8192,32767,0,131071,210,55,1,2,54,56,4561] (fun o _=>?_) zBk [(5,2280)] [2280])
 refine A [204,51,8,1,38,42,46,50,56,60,64,4561,66] ?_
 refine vS [] [14,15] [7] U U (zF9 (T:=tab) 7 U U U U U U U U U (pyq U)) U U (A [50,4,1,14,15,66,4561,15,79,6,62] ?_)
 refine jw (zCE fu j1 l4 e o) [0,3,7] [2280,3,900000,900001] (fun _=>[]) (fun (m,n)=>[(7,.box 77 [Z m,O e.1.Name,O e.1.Is,O e.1.Data,.own 2280,Z j1.under,.v (.slice none 0 0),Z (-1),Z (-1),Z n])]) U U ?_ fun d=>?_
 ·rintro ⟨m,n⟩
  refine A [7,61,33,2280,43] (fun h _=>?_) zOF [(900000,900000),(900001,900001)] [900001]
  refine A [57,6,93,0,10,19,68,52,2,3,7,8,7,900000,900001,53,5,0,0,2,1,15,205,79,8,52,4,4,0,3,7,8,900000,900001,7,3,53,23,0,1,3,7,15,0,32,0,128,384,896,1920,0,4096,16256,32640,65408,0,131072,524160,1048575,2097151,4194303,214] ?_
  exact vT [130,134,1800003] [136] [] U U (zBP (T:=tab) h.2 (by simp) U U U U U U U U fun a b=>pzq U) (fun _=>U) (fun _=>U) fun a b=>vq 1 U (by kernel_rfl) (vU [138,1800003] [140,1800003,1400141] [700070] U U (zUD (T:=tab) 700070 (zHU (f:=nB) (zAt b)) U U U U U U U U U U U U U U U (pyq U)) U U fun _ _=>vq 1 U (by kernel_rfl) (vS [142] [144,145] [72] U U (pl ([h.1].map zAA) 72 U U U U U U (pyq U)) U U (vU [140,144,145,1400141,1800003] [146,140,1400141,1800003] [700070] U U (pa zAA a.1.Kids ([h.1]:List Int) U U U U U U U U (zCy _) U U U (pyq U)) U U fun _ _=>vT [116,120,1800003] [148] [] U U (zPN (T:=tab) h.2 (by simp) U U U U U U U U fun i c=>pzq U) (fun _=>U) (fun _=>U) fun i c=>vq 1 U (by kernel_rfl) (vS [146,150,1400141,1800003] [146,1400141,1800003] [] U U (zbd 900001 U U (zUB (T:=tab) (zWr (zAt c)) (zTo (f:=nB) ((({a.1 with Kids:=(a.1.Kids++[h.1])}:Node),true):Node×Bool) (by rfl)) U U U U U U U U U U U (pyq U))) U U (A [79,6,52,2,3,7,8,7,900000,900001,53,5,0,0,2,1,15,205,79,8])))))
 ·refine A [13,62] ?_
  refine zAD U ?_ ?_
  ·refine A [14,105] ?_
   exact zMz (T:=tab) (l:=l4.length) U U U U U U U (by simp) U U (A [1,12,11,15,45] (d (e.1.Kind,(l4.length:Int))))
  ·refine A [62] ?_
   refine zAD U ?_ ?_
   ·exact A [14,1,12,11,15,45] (d (3,j1.doc))
   ·exact A [4,15,45] (d (e.1.Kind,j1.doc))
def zC3 (a:Int×Int×(List (Node×Bool))) (c:Node×Bool) (b:((List zBb)×(List (Node×Bool)))->Option (Int×(List (Node×Bool)))):Nat->(List zBb)->Option (Int×(List (Node×Bool)))
 | 0,l13=>b (l13,a.2.2)
 | k2+1,l13=>bnd (c.1.Kids[k2]?) fun d=>bnd (zDE 24 (l13.length+([(⟨d,a.2.1,a.1⟩:zBb)]:List zBb).length)) fun _=>(zC3 a c b k2) (l13++[(⟨d,a.2.1,a.1⟩:zBb)])
def zC2 (fu:Nat) (d:Bool) (l4:List (Node×Bool)):Nat->(List zBb)×(List (Node×Bool))->Option (Int×(List (Node×Bool)))
 | 0,_=>none
 | k1+1,(l5,l6)=>cnd (decide ((l5.length:Int)>0)) (bnd (rng .i64 ((l5.length:Int) - 1)) fun f=>bnd (idx l5 f) fun e=>bnd (rng .i64 ((l5.length:Int) - 1)) fun g=>bnd (piece l5 0 g) fun c=>bnd (zEe fu e l6) fun a=>cnd (!d) (some ((l4.length:Int),a.2.2)) (bnd (idx a.2.2 e.n) fun b=>bnd (zPo b.2) fun _=>(zC3 a b (zC2 fu d l4 k1)) b.1.Kids.length c)) (some ((l4.length:Int),l6))
def zHp (fu:Nat) (a:zBb) (b:Bool) (l4:List (Node×Bool)):Option (Int×(List (Node×Bool))):=(zC2 fu b l4) fu ([a],l4)
theorem zOG {fu:Nat} {b:zBb} {k:Int} {i:Bool} {l4:List (Node×Bool)}:FF (zHp fu b i l4) 205 [.loc 900000 0,.agg (zGU b)] [(900000,.box 288 [.own 900001,Z k,Y i]),(900001,.tre 77 10 6 3 (l4.map nB))] [900000] (fun r=>Z r.1) fun r=>[(900000,.box 288 [.own 900001,Z k,Y i]),(900001,.tre 77 10 6 3 (r.2.map nB))]:=by
 refine fcI Tryz.func205 U (fun {w0 X X0 σ0 _}=>A [9,30,3,57,9,105] ?_)
 refine zMz (T:=tab) (l:=l4.length) U U U U U U U (by simp) U U (A [57,6,80] ?_)
 refine pl ([b].map zGU) 19 U U U U U U (A [31,6,12,0,13] ?_)
 refine lw (zC2 fu i l4) [0,5,6] [6,900000] (fun _=>[]) (fun (j,q)=>[(19,.arr 291 3 (j.map zGU)),(900001,.tre 77 10 6 3 (q.map nB))]) fu ([b],l4) U U ?_
 rintro s ⟨j,q⟩
 refine A [6,80,39,57,10,3,86,62,8,72,61,39,16] fun u _=>?_
 refine A [38] fun t m=>?_
 refine zAr (T:=tab) zGU j t (zAt m) U U U U U U U U (A [31,7,12,0,61,39,16] fun v _=>?_)
 refine zJB (T:=tab) zGU j U U U U U U U U U U U fun p _=>A [12,0,61,43] (fun a _=>?_) zMK [(900000,900000),(900001,900001)] [900001]
 refine A [3,31,8,31,9,12,12,0,6,9,105,0,5,3,86,62,8,68,52,6,7,0,5,6,7,8,9,9,8,900000,900001,19,7,6,53,11,0,1,3,7,15,0,32,127,255,511,1023,207] ?_
 refine vT [98,102,1800003] [104] [] U U (zBP (T:=tab) a.2.2 (by simp) U U U U U U U U fun h e=>pzq U) (fun _=>U) (fun _=>U) fun h e=>vq 1 U (by kernel_rfl) (vU [106,1800003] [108] [] U U (zN1 (T:=tab) (zHU (f:=nB) (zAt e)) U U U U U U U U (pyq U)) U U fun _ _=>vS [108] [110,6111] [3055] U U (zLd (n:=3055) tab Tryz.func229 U U U U U U U U U U U U ⟨⟨_,U,.rfl⟩,trivial⟩ zWZ U U (pyq U)) U U (A [79,13] ?_))
 refine zW9 (T:=tab) (enc:=zAA) (enc':=fun (c:Int)=>Z c) (xs:=h.1.Kids) (x0:=p) (n:=3055) (tS:=32) (tE:=3) (tI:=3) (tB:=4) (tF:=336) (g:=274) (M:=(zC3 a h (zC2 fu i l4 s))) (Sf:=fun (d:(List zBb))=>[(9,.box 3 [Z a.2.1]),(8,.box 3 [Z a.1]),(900000,.box 288 [.own 900001,Z k,Y i]),(900001,.tre 77 10 6 3 (a.2.2.map nB)),(19,.arr 291 3 (d.map zGU)),(6,.box 344 [.own 19])]) (N1:=[6,8,9,900000]) (E0:=[(0,.loc 900000 0),(5,Z (l4.length:Int)),(6,.loc 6 0),(8,.loc 8 0),(9,.loc 9 0)]) (E1:=fun o c=>[(0,.loc 900000 0),(5,Z (l4.length:Int)),(6,.loc 6 0),(8,.loc 8 0),(9,.loc 9 0),(56,Z ((o:Nat):Int)),(57,Z c),(11,Z c)]) Tryz.func274 U U U zWa U U (fun _=>U) (fun _=>U) U U ⟨U,U,U,U,U,trivial⟩ U U ⟨U,U,U,U,U,U,trivial⟩ U U U U U U ?_ ?_ ?_
 ·rintro o c d hy w0 X X0 σ0 _ _
  refine A [1,11] ?_
  exact zPM ⟨U,U,U,U,U,U,U,U,trivial⟩ ⟨U,U,U,U,U,U,trivial⟩ U
 ·rintro o c d hy w0 X X0 σ0 _ _
  refine zQg hy (A [104,20] ?_)
  exact pl ([(⟨c,a.2.1,a.1⟩:zBb)].map zGU) 63 U U U U U U (pa zGU d ([(⟨c,a.2.1,a.1⟩:zBb)]:List zBb) U U U U U U U U (zTc _) U U U (A [12,63] (tx (d++[(⟨c,a.2.1,a.1⟩:zBb)]))))
 ·rintro d
  exact A [15,69,58,14,31,6,12,63] (tx (d,a.2.2))
def zFm (fu:Nat) (c:Forest) (h f:Int) (a:Bool) (b:Int):Option (Forest×Int×Int):=bnd (rng .i64 ((c.Nodes.length:Int)+b)) fun g=>cnd (decide (g>c.Most)) (some (c,(-1),8)) (bnd (zAn fu c.Nodes) fun e=>bnd (zHp fu (⟨h,f,(-1)⟩:zBb) a (e.map fun x=>(x,false))) fun d=>some ((⟨(d.2.map Prod.fst),c.Most⟩:Forest),d.1,0))
def zLO (fu:Nat) (b:Forest) (c d:Int) (a:Bool):Option (Forest×Int×Int):=bnd (zEs fu b [c]) fun e=>cnd (!e) (some (b,(-1),1)) (bnd (zKe fu b d) fun f=>cnd (!f) (some (b,(-1),1)) (cnd a (bnd (zET fu b c) fun g=>(zFm fu b c d a) (g.length:Int)) ((zFm fu b c d a) 1)))
theorem zUl {fu:Nat} {g:Forest} {e f:Int} {a:Bool}:DD (zLO fu g e f a) 136 [.agg (zAC g),Z e,Z f,Y a] fun r=>.tup [.agg (zAC r.1),Z r.2.1,Z r.2.2]:=by
 refine fcI Tryz.func136 U (A [9,30,4,31,8,2,0,6,61] ?_)
 refine pl ([e].map zAA) 16 U U U U U U (A [33,16,41] (fun k _=>?_) zHI)
 refine A [2,26,19,6,105,65,80,12,2,74,2,41] (fun l _=>?_) zQ3
 refine A [2,0,5,4,80,12,2,74,67,75,58] ?_
 refine jw (zFm fu g e f a) [1,2,3,4,8] [8,4] (fun b=>[(11,Z b)]) (fun _=>[]) U U ?_ fun c=>?_
 ·rintro b
  refine A [7,6,61,35,1,16] fun j _=>?_
  refine A [3,0,5,4,80,12,2,74,68,52,5,2,1,2,3,4,8,8,4,53,10,0,1,3,0,8,31,0,127,255,511,202] ?_
  refine vT [82] [84,4841] [2420] U U (tqG (rn:=[(5,2420)]) (ks:=[2420]) ⟨zBl⟩ U U U U U U U U fun d _=>zex 2420 6 3 zAV d U U U U (pzq U)) (fun _=>U) (fun _=>U) fun d _=>A [202,51,3,1,84,88,4841,90,201,51,3,1,90,92,4841,94] ?_
  refine vS [94,4841] [96,97] [48] U U (zRo  48 U U U U U U U U U U (pyq U)) U U (A [201,79,93,20,43] (fun h _=>?_) zOG [(900000,48),(900001,2420)] [2420])
  refine A [57,9,105,12,2,0] ?_
  exact zDW 2420 (nB) Prod.fst zAV h.2 (fun _=>U) (fun _=>U) U U U rN
 ·refine zAD U ?_ ?_
  ·refine A [14,2,43] (fun i _=>?_) zJE [(1034,2290)] [2290]
   exact A [33,2290,35,1,11,45] (c (i.length:Int))
  ·exact A [4,45] (c 1)
def zEn (_fu:Nat) (a:Int) (b:Forest):Option Bool:=cnd (decide (a<0)) (some true) (some (decide (a>=(b.Nodes.length:Int))))
theorem zP9 {fu:Nat} {b:Int} {a:Forest}:FF (zEn fu b a) 157 [Z b,.loc 900000 0] [(900000,.box 24 (zAC a))] [900000] (fun r=>Y r) fun _=>[(900000,.box 24 (zAC a))]:=by
 exact fcI Tryz.func157 U (A [58,93,26,6,2,107,74,3,35,3,74])
theorem zJn {fu:Nat} {b:List Int} {a:Forest}:FF (zAS fu (fun c=>zEn fu c a) b) 227 [.sl 1 false (b.map zAA),.fn (.func 157) [] [.loc 900000 0]] [(900000,.box 24 (zAC a))] [900000] (fun r=>Z r) fun _=>[(900000,.box 24 (zAC a))]:=by
 refine fcI Tryz.func227 U (A [75,80,77,13] ?_)
 refine lw (zAJ (fun c=>zEn fu c a) b) [0,1,7] [900000] (fun d=>[(8,Z d)]) (fun _=>[]) fu 0 U U ?_
 rintro f d
 refine A [75,10,2,86,59,72,62,93,36] fun h _=>?_
 refine A [1,44] (fun g _=>?_) zP9 [(900000,900000)]
 refine A [0,5,2,62,8,4,94] fun e _=>?_
 exact A [89] (tx e)
theorem zIj {fu:Nat} {b:List Int} {a:Forest}:FF (zAY fu (fun c=>zEn fu c a) b) 156 [.sl 1 false (b.map zAA),.fn (.func 157) [] [.loc 900000 0]] [(900000,.box 24 (zAC a))] [900000] (fun r=>Y r) fun _=>[(900000,.box 24 (zAC a))]:=by
 refine fcI Tryz.func156 U (A [58,61,44] (fun d _=>?_) zJn [(900000,900000)])
 exact A [2,74]
def zEJ (fu:Nat) (a:Forest) (l2:List Int):Option Bool:=bnd (zAo fu a) fun b=>cnd b (bnd (zAY fu (fun d=>zEn fu d a) l2) fun c=>some (!c)) (some false)
theorem zGS {fu:Nat} {a:Forest} {l2:List Int}:DD (zEJ fu a l2) 93 [.agg (zAC a),.sl 1 false (l2.map zAA)] fun r=>Y r:=by
 refine fcI Tryz.func93 U (A [73,57,80,41] (fun b _=>?_) zA4)
 refine A [1,27,7,2,106,74,2,44] (fun c _=>?_) zIj [(900000,2)]
 exact A [3,74]
def zAZ (_fu:Nat) (l1:zAg) (a:Int):Option Int:=bnd (idx l1.Forest.Nodes a) fun b=>some b.Kind
theorem zCp {fu:Nat} {l1:zAg} {a:Int}:DD (zAZ fu l1 a) 158 [.agg (zIY l1),Z a] fun r=>Z r:=by
 refine fcI Tryz.func158 U (A [73,57,76,36] fun b _=>?_)
 exact A [3,74]
def zDG (fu:Nat) (b:Forest) (a:Int):Nat->Int->Option Bool
 | 0,_=>none
 | k1+1,b5=>cnd (b5 != (-1)) (cnd (b5 != a) (bnd (zGu fu b b5) fun c=>(zDG fu b a k1) c) (some (b5==a))) (some (b5==a))
def zEF (fu:Nat) (c:Forest) (a b:Int):Option Bool:=bnd (zB4 fu c [a,b]) fun d=>cnd (!d) (some false) ((zDG fu c a) fu b)
theorem zOD {fu:Nat} {c:Forest} {a b:Int}:DD (zEF fu c a b) 159 [.agg (zAC c),Z a,Z b] fun r=>Y r:=by
 refine fcI Tryz.func159 U (A [9,30,3,57,6,93] ?_)
 refine pl ([a,b].map zAA) 10 U U U U U U (A [33,10,41] (fun g _=>?_) zH4)
 refine A [57,5,1,59,72] ?_
 refine lw (zDG fu c a) [1,3] [3] (fun d=>[(2,Z d)]) (fun _=>[]) fu b U U ?_
 rintro f d
 refine A [6,93,27,15,6,104,11,24,86,76,74,104,0,10,3,86,76,74,67,13,14,2,41] (fun e _=>?_) zNk
 exact A [1,11,15,46] (tx e)
def zBf (fu:Nat) (l1:zAg) (a:List Int) (b:Int):Nat->Int×Int->Option Int
 | 0,_=>none
 | k1+1,(n4,t5)=>cnd (decide (t5<(a.length:Int))) (bnd (idx a t5) fun e=>cnd (e != l1.gone) (bnd (zAZ fu l1 e) fun h=>cnd (h==b) (bnd (rng .i64 (n4+1)) fun f=>bnd (rng .i64 (t5+1)) fun g=>(zBf fu l1 a b k1) (f,g)) (bnd (rng .i64 (t5+1)) fun c=>(zBf fu l1 a b k1) (n4,c))) (bnd (rng .i64 (t5+1)) fun d=>(zBf fu l1 a b k1) (n4,d))) (some n4)
def zCU (fu:Nat) (l1:zAg) (a:List Int) (b:Int):Option Int:=(zBf fu l1 a b) fu (0,0)
theorem zFD {fu:Nat} {l1:zAg} {a:List Int} {b:Int}:DD (zCU fu l1 a b) 228 [.agg (zIY l1),.sl 1 false (a.map zAA),Z b] fun r=>Z r:=by
 refine fcI Tryz.func228 U (A [9,30,3,57,75,80,77,13] ?_)
 refine lw (zBf fu l1 a b) [2,3,10,11] [3] (fun (c,f)=>[(7,Z c),(12,Z f)]) (fun _=>[]) fu (0,0) U U ?_
 rintro i ⟨c,f⟩
 refine A [75,10,3,86,62,8,72,9,36] fun l _=>?_
 refine A [2,0,9,105] ?_
 refine zAT (j:=20) U ?_ ?_
 ·refine A [2,41] (fun k _=>?_) zCp
  refine A [3,0] ?_
  refine zAD U ?_ ?_
  ·refine A [14,1,16] fun g _=>?_
   refine A [1,11,94] fun h _=>?_
   exact A [89] (tx (g,h))
  ·refine A [4,94] fun d _=>?_
   exact A [89] (tx (c,d))
 ·refine A [106,11,24,4,94] fun e _=>?_
  exact A [89] (tx (c,e))
def zBe (fu:Nat) (l1:zAg) (a:List Int):Option Bool:=bnd (zCU fu l1 a 2) fun c=>cnd (decide (c>0)) (some true) (bnd (zCU fu l1 a 1) fun d=>cnd (decide (d>0)) (bnd (zCU fu l1 a 1) fun e=>bnd (idx l1.Forest.Nodes l1.p) fun g=>bnd (zCU fu l1 g.Kids 1) fun f=>bnd (rng .i64 (e+f)) fun b=>some (decide (b>1))) (some false))
theorem zHX {fu:Nat} {l1:zAg} {a:List Int}:DD (zBe fu l1 a) 160 [.agg (zIY l1),.sl 1 false (a.map zAA)] fun r=>Y r:=by
 refine fcI Tryz.func160 U (A [73,57,6,52,2,1,1,2,2,53,28,0,0,3,7,15,31,31,127,255,511,1023,1023,4095,1023,1023,17407,50175,1023,132095,508927,1033215,2081791,4194303,8388607,16777215,33554431,67108863,134217727,202,54,2,1,10,12,14] (fun d _=>?_) zFD)
 refine vq 2 U (by kernel_rfl) (zBa (t:=9) U ?_ ?_)
 ·exact A [223,79,8]
 ·refine A [202,54,3,1,18,20,22,24] (fun e _=>?_) zFD
  refine vq 2 U (by kernel_rfl) (zBa (t:=14) U ?_ ?_)
  ·refine A [202,54,3,1,28,30,32,34] (fun f _=>?_) zFD
   refine vq 6 U (by kernel_rfl) (vT [28,42,46] [48] [] U U (zEu (T:=tab) zAV l1.Forest.Nodes U U U U U U U fun c _=>pzq U) (fun _=>U) (fun _=>U) fun c _=>A [202,54,3,1,28,36,52,54] (fun g _=>?_) zFD)
   exact vT [28,34,54] [56] [] U U (zMZ (T:=tab) U U U U fun b _=>pzq U) (fun _=>U) (fun _=>U) fun b _=>A [204,79,8]
  ·exact A [218,79,8]
def zDp (fu:Nat) (l1:zAg) (f g:Int) (h:Bool):Option Int:=cnd h (some 5) (cnd (g==3) (bnd (zAZ fu l1 l1.p) fun a=>cnd (a==0) (bnd (idx l1.Forest.Nodes f) fun e=>bnd (zBe fu l1 e.Kids) fun b=>cnd b (some 5) (some 0)) (some 0)) (bnd (zAZ fu l1 l1.p) fun c=>cnd (c==0) (bnd (zBe fu l1 [f]) fun d=>cnd d (some 5) (some 0)) (some 0)))
def zDo (fu:Nat) (l1:zAg) (b:Int) (c:Unit):Option Int:=bnd (zAZ fu l1 b) fun a=>cnd (a==0) ((zDp fu l1 b a) (a==0)) ((zDp fu l1 b a) (a==4))
def zDn (fu:Nat) (l1:zAg) (c:Int) (a b:Bool):Option Int:=cnd (!a) (cnd (!a) (some 5) (cnd (!b) (some 6) ((zDo fu l1 c) ()))) (bnd (zEF fu l1.Forest c l1.p) fun d=>cnd d (some 5) (cnd (!b) (some 6) ((zDo fu l1 c) ())))
def zAm (fu:Nat) (l1:zAg) (b:Int) (a:Bool):Option Int:=cnd (l1.child != (-1)) (bnd (idx l1.Forest.Nodes l1.child) fun c=>(zDn fu l1 b a) (c.Parent==l1.p)) ((zDn fu l1 b a) (l1.child==(-1)))
def zC4 (fu:Nat) (l1:zAg) (a:Int):Option Int:=bnd (zAZ fu l1 l1.p) fun b=>cnd (b==0) (cnd (b==0) ((zAm fu l1 a) true) ((zAm fu l1 a) false)) (cnd (b==1) (cnd (b==1) ((zAm fu l1 a) true) ((zAm fu l1 a) false)) (cnd (b==3) (cnd (b==3) ((zAm fu l1 a) true) ((zAm fu l1 a) false)) (cnd (b==4) ((zAm fu l1 a) true) ((zAm fu l1 a) false))))
theorem zGi {fu:Nat} {l1:zAg} {d:Int}:DD (zC4 fu l1 d) 94 [.agg (zIY l1),Z d] fun r=>Z r:=by
 refine fcI Tryz.func94 U (A [73,57,6,52,2,1,1,2,2,53,5,0,1,3,0,15,205,79,6,93,41] (fun q _=>?_) zCp)
 refine ns (jw (zAm fu l1 d) [1,2,6] [2] (fun a=>[(5,Y a)]) (fun _=>[]) U U ?_ fun b=>?_)
 ·rintro a
  refine A [7,6,93,0] ?_
  refine jw (zDn fu l1 d a) [1,2,5] [2] (fun c=>[(6,Y c)]) (fun _=>[]) U U ?_ fun e=>?_
  ·rintro c
   refine A [7,6] ?_
   refine jw (zDo fu l1 d) [1,2] [2] (fun _=>[]) (fun _=>[]) U U ?_ fun f=>?_
   ·rintro _
    refine A [7,6,99] (fun h _=>?_) zCp
    refine A [0,13,6,62] ?_
    refine jw (zDp fu l1 d h) [1,2,47] [2] (fun j=>[(48,Y j)]) (fun _=>[]) U U ?_ fun g=>?_
    ·rintro j
     refine A [7,5,1,59,62] ?_
     refine zAD U ?_ ?_
     ·refine A [6,6,52,2,1,1,2,2,53,16,0,0,2,7,15,31,63,63,191,447,63,1983,4031,8127,16383,32767,203,54,2,1,106,110,112] (fun l _=>?_) zCp
      refine vq 2 U (by kernel_rfl) (zBa (t:=58) U ?_ ?_)
      ·refine vq 5 U (by kernel_rfl) (vT [116,124,126] [128] [] U U (zEu (T:=tab) zAV l1.Forest.Nodes U U U U U U U fun i _=>pzq U) (fun _=>U) (fun _=>U) fun i _=>A [202,54,3,1,116,118,132,134] (fun m _=>?_) zHX)
       exact A [201,79,5,1,59,67,59]
      ·exact A [210,19,24,67,59]
     ·refine A [4,69,6,93,41] (fun n _=>?_) zCp
      refine A [2,27,74,5,105,11,24,67,59,2] ?_
      refine pl ([d].map zAA) 77 U U U U U U (A [33,77,41] (fun o _=>?_) zHX)
      exact A [57,5,1,59,67,59]
    ·refine zAD U ?_ ?_
     ·exact A [4,45] (g (h==0))
     ·exact A [14,2,11,45] (g (h==4))
   ·refine A [13,6,93,0] ?_
    refine zAD U ?_ ?_
    ·exact A [67,5,1,59,93,0,5,1,59,4,15,45] (f ())
    ·refine A [14,105,41] (fun s _=>?_) zOD
     exact A [57,5,1,59,93,0,5,1,59,4,15,45] (f ())
  ·refine zAD U ?_ ?_
   ·refine A [52,3,1,1,2,5,2,53,12,0,1,3,0,8,31,63,127,0,256,1023,2047,205] ?_
    exact vT [48,52] [54] [] U U (zEu (T:=tab) zAV l1.Forest.Nodes U U U U U U U fun k _=>pzq U) (fun _=>U) (fun _=>U) fun k _=>A [206,19,45] (e (k.Parent==l1.p))
   ·exact A [4,45] (e (l1.child==(-1)))
 ·refine A [13,6,62] ?_
  refine zAD U ?_ ?_
  ·refine A [67] ?_
   refine zAD U ?_ ?_
   ·exact A [14,1,11,15,45] (b true)
   ·exact A [4,15,45] (b false)
  ·refine A [62] ?_
   refine zAD U ?_ ?_
   ·refine A [67] ?_
    refine zAD U ?_ ?_
    ·exact A [14,1,11,15,45] (b true)
    ·exact A [4,15,45] (b false)
   ·refine A [62] ?_
    refine zAD U ?_ ?_
    ·refine A [67] ?_
     refine zAD U ?_ ?_
     ·exact A [14,1,11,15,45] (b true)
     ·exact A [4,15,45] (b false)
    ·refine A [14,2,0] ?_
     refine zAD U ?_ ?_
     ·exact A [14,1,11,15,45] (b true)
     ·exact A [4,15,45] (b false)
def zEa (fu:Nat) (b:Forest) (c d a:Int):Option Int:=bnd (zEJ fu b [c,d]) fun e=>cnd (!e) (some 1) (cnd (a != (-1)) (bnd (zEJ fu b [a]) fun f=>cnd (!f) (some 1) (bnd (zC4 fu (⟨b,d,a,(-1)⟩:zAg) c) fun g=>some g)) (bnd (zC4 fu (⟨b,d,a,(-1)⟩:zAg) c) fun h=>some h))
theorem zPf {fu:Nat} {d:Forest} {b c a:Int}:DD (zEa fu d b c a) 48 [.agg (zAC d),Z b,Z c,Z a] fun r=>Z r:=by
 refine fcI Tryz.func48 U (A [9,30,4,57,6,93] ?_)
 refine pl ([b,c].map zAA) 12 U U U U U U (A [33,12,41] (fun e _=>?_) zGS)
 refine A [2,26,15,2,110,83,3] ?_
 refine zAT (j:=18) U ?_ ?_
 ·refine pq 2 U (pl ([a].map zAA) 21 U U U U U U (A [33,21,41] (fun f _=>?_) zGS))
  refine A [3,0,5,1,59,67,93,20,1,41] (fun g _=>?_) zGi
  exact A [57,8]
 ·refine A [107,11,24,67,93,20,1,41] (fun h _=>?_) zGi
  exact A [57,8]
def zBN (_fu:Nat) (a:Bs) (b:Int):Option (Option (Bs×Int)):=cnd (b==0) (some none) (some (some (a,b)))
theorem zB3 {fu:Nat} {a:Bs} {b:Int}:DD (zBN fu a b) 47 [O a,Z b] fun r=>.v (zRL 181 179 r):=by
 refine fcI Tryz.func47 U (A [75,62,5,1,59,67,61,20] ?_)
 exact zbb [(.int .i64 b)] (by kernel_rfl) U U U U U U (zOp (T:=tab) U U U U U U U (zbb [(.string ⟨⟨a⟩⟩),(.iface 179 (.agg ⟨[.int .i64 b]⟩))] (by kernel_rfl) U U U U U U (A [57,8])))
def zHg (fu:Nat) (b:Forest) (c:List Node):Nat->Int×(List (Node×Bool))->Option (Unit×Int×(List (Node×Bool))×(List Note))
 | 0,_=>none
 | k1+1,(t3,a)=>cnd (decide (t3<(((c.map fun x=>(x,false)).length:Nat):Int))) (bnd (idx a t3) fun d=>bnd (zPo d.2) fun _=>bnd (zBW fu d.1.Kids) fun f=>bnd (idx a t3) fun g=>bnd (rng .i64 (t3+1)) fun e=>(zHg fu b c k1) (e,(a.set (t3).toNat (({g.1 with Kids:=f}:Node),true)))) (some ((),b.Most,a,([]:List Note)))
def zKY (fu:Nat) (a:Forest):Option (Unit×Int×(List (Node×Bool))×(List Note)):=bnd (zAn fu a.Nodes) fun b=>(zHg fu a b) fu (0,(b.map fun x=>(x,false)))
theorem zHh {fu:Nat} {g:Forest}:FF (zKY fu g) 91 [.agg (zAC g)] [] [] (fun _=>.loc 12 0) fun r=>[(12,.box 131 [.own 2070,Z r.2.1,.own 31202]),(2070,.tre 77 10 6 3 (r.2.2.1.map nB)),(31202,.arr 192 9 (r.2.2.2.map zBF))]:=by
 refine fcI Tryz.func91 U (A [9,30,1,57,6,52,1,1,1,1,53,9,0,1,3,0,8,31,63,127,255,202] ?_)
 refine vT [12] [14,4141] [2070] U U (tqG (rn:=[(5,2070)]) (ks:=[2070]) ⟨zBl⟩ U U U U U U U U fun d _=>zex 2070 6 3 zAV d U U U U (pzq U)) (fun _=>U) (fun _=>U) fun d _=>A [202,51,3,1,14,18,4141,20,51,2,1,20,4141,22] ?_
 refine vS [22,4141] [24,25] [12] U U (zRo  12 U U U U U U U U U U (pyq U)) U U (A [201,79,6,9,105] ?_)
 refine zMz (T:=tab) (l:=(d.map fun x=>(x,false)).length) U U U U U U U (by simp) U U (A [57,13] ?_)
 refine lw (zHg fu g d) [3,18] [12] (fun (e,a)=>[(19,Z e)]) (fun (e,a)=>[(2070,.tre 77 10 6 3 (a.map nB))]) fu (0,(d.map fun x=>(x,false))) U U ?_
 rintro m ⟨e,a⟩
 refine A [75] ?_
 refine zAD U ?_ ?_
 ·refine A [72,62,52,4,2,3,18,19,4,12,2070,53,19,0,1,3,7,15,0,0,64,192,448,960,0,4032,8128,16320,32704,65535,131071,262143,212] ?_
  refine vT [64,66,4141] [68] [] U U (zBP (T:=tab) a (by simp) U U U U U U U U fun k b=>pzq U) (fun _=>U) (fun _=>U) fun k b=>vq 1 U (by kernel_rfl) (vU [70,4141] [72] [] U U (zN1 (T:=tab) (zHU (f:=nB) (zAt b)) U U U U U U U U (pyq U)) U U fun _ _=>A [55,1,2,72,74,4741] (fun i _=>?_) zE9 [(5,2370)] [2370])
  refine vT [52,54,4141] [76] [] U U (zBP (T:=tab) a (by simp) U U U U U U U U fun h c=>pzq U) (fun _=>U) (fun _=>U) fun h c=>vq 1 U (by kernel_rfl) (vS [74,78,4141,4741] [74,4741,4141] [] U U (zUB (T:=tab) (zHU (f:=nB) (zAt c)) (zdJ (f:=nB) ((({h.1 with Kids:=i}:Node),true):Node×Bool) (by rfl)) U U U U U U U U U U U (pyq U)) U U (A [19,94] fun j _=>?_))
  exact A [89] (tx (j,(a.set (e).toNat (({h.1 with Kids:=i}:Node),true))))
 ·refine A [86,62] ?_
  exact zJc 31202 192 9 12 2 U U U U U U rN
def zH5 (fu:Nat) (d:Forest) (b f a:Int):Option Int:=bnd (zEa fu d b f a) fun g=>cnd (g != 0) (some (-1)) (cnd (a != b) (some a) (bnd (idx d.Nodes f) fun c=>bnd (zCT fu c.Kids b) fun h=>bnd (rng .i64 (h+1)) fun e=>cnd (decide (e>=(c.Kids.length:Int))) (some (-1)) (bnd (idx c.Kids e) fun i=>some i)))
theorem zQ5 {fu:Nat} {b:Forest} {c d a:Int}:DD (zH5 fu b c d a) 51 [.agg (zAC b),Z c,Z d,Z a] fun r=>Z r:=by
 refine fcI Tryz.func51 U (A [9,30,4,57,6,76,41] (fun f _=>?_) zPf)
 refine A [57,5,1,59,68,93,0,5,2,62,8,67,93,36] fun h _=>?_
 refine A [3,0,99] (fun g _=>?_) zGh
 refine A [16] fun e _=>?_
 refine A [57,6,61,77,5,1,59,67,61,36] fun i _=>?_
 exact A [2,74]
def zI0 (fu:Nat) (b:Forest) (a:Int):Option (List Int):=bnd (zEJ fu b [a]) fun c=>cnd (!c) (some ([]:List Int)) (bnd (idx b.Nodes a) fun e=>cnd (e.Kind==3) (bnd (idx b.Nodes a) fun f=>bnd (zBW fu f.Kids) fun d=>some d) (some [a]))
theorem zSC {fu:Nat} {b:Forest} {a:Int}:FF (zI0 fu b a) 95 [.agg (zAC b),Z a] [] [] (fun _=>.own 2250) fun r=>[(2250,.arr 3 1 (r.map zAA))]:=by
 refine fcI Tryz.func95 U (A [73,57,6,13,61] ?_)
 refine pl ([a].map zAA) 2250 U U U U U U (A [33,2250,41] (fun c _=>?_) zGS)
 refine A [2,0,5,7,58,56,2250,3,1,4,8,93,36] fun e _=>?_
 refine A [104,0] ?_
 refine zAD U ?_ ?_
 ·refine A [93,36] fun f _=>?_
  refine A [2,43] (fun d _=>?_) zE9 [(5,2250)] [2250]
  exact A [57,8]
 ·refine A [4,69,80] ?_
  exact pl ([a].map zAA) 2250 U U U U U U (A [57,8])
def zDh (_fu:Nat) (b:Int) (a:Forest):Option Bool:=bnd (idx a.Nodes b) fun c=>some (c.Kind != 1)
theorem zLm {fu:Nat} {b:Int} {a:Forest}:FF (zDh fu b a) 232 [Z b,.loc 900000 0] [(900000,.box 24 (zAC a))] [900000] (fun r=>Y r) fun _=>[(900000,.box 24 (zAC a))]:=by
 refine fcI Tryz.func232 U (A [58,93,36] fun c _=>?_)
 exact A [104,74]
theorem zJo {fu:Nat} {l1:List Int} {a:Forest}:FF (zAS fu (fun c=>zDh fu c a) l1) 227 [.own 900000,.fn (.func 232) [] [.loc 900001 0]] [(900000,.arr 3 1 (l1.map zAA)),(900001,.box 24 (zAC a))] [900000,900001] (fun r=>Z r) fun _=>[(900000,.arr 3 1 (l1.map zAA)),(900001,.box 24 (zAC a))]:=by
 refine fcI Tryz.func227 U (A [75,80,39,57,13] ?_)
 refine lw (zAJ (fun c=>zDh fu c a) l1) [0,1,7] [900000,900001] (fun d=>[(8,Z d)]) (fun _=>[]) fu 0 U U ?_
 rintro g d
 refine A [75,10,2,86,59,72,62,93,38] fun f b=>?_
 refine zAr (T:=tab) zAA l1 f (zAt b) U U U U U U U U (A [44] (fun h _=>?_) zLm [(900000,900001)])
 refine A [0,5,2,62,8,4,94] fun e _=>?_
 exact A [89] (tx e)
def zA7 (f:Int->Option Bool):Nat->Int×Int×(List Int)->Option (List Int)
 | 0,_=>none
 | k1+1,(i5,j6,l7)=>cnd (decide (j6<(l7.length:Int))) (bnd (idx l7 j6) fun g=>bnd (f g) fun h=>cnd (!h) (bnd (idx l7 i5) fun i=>bnd (rng .i64 (i5+1)) fun a=>bnd (rng .i64 (j6+1)) fun b=>(zA7 f k1) (a,b,(l7.set (i5).toNat g))) (bnd (rng .i64 (j6+1)) fun c=>(zA7 f k1) (i5,c,l7))) (bnd (zVw l7 i5 (0:Int)) fun d=>bnd (piece d 0 i5) fun e=>some e)
def zDI (fu:Nat) (b:Int->Option Bool) (l1:List Int):Option (List Int):=bnd (zAS fu b l1) fun a=>cnd (a==(-1)) (some l1) (bnd (rng .i64 (a+1)) fun c=>(zA7 b) fu (a,c,l1))
theorem zKb {fu:Nat} {l1:List Int} {c:Forest}:FF (zDI fu (fun l=>zDh fu l c) l1) 231 [.own 900000,.fn (.func 232) [] [.loc 900001 0]] [(900000,.arr 3 1 (l1.map zAA)),(900001,.box 24 (zAC c))] [900001] (fun _=>.own 900000) fun r=>[(900000,.arr 3 1 (r.map zAA)),(900001,.box 24 (zAC c))]:=by
 refine fcI Tryz.func231 U (A [58,61,44] (fun o _=>?_) zJo [(900000,900000),(900001,900001)])
 refine A [57,6,62,5,2,62,8,68,80,16] fun m _=>?_
 refine A [57,13] ?_
 refine lw (zA7 (fun l=>zDh fu l c)) [0,1] [900001] (fun (e,j6,a)=>[(5,Z e),(6,Z j6)]) (fun (e,j6,a)=>[(900000,.arr 3 1 (a.map zAA))]) fu (o,m,l1) U U ?_
 rintro p ⟨e,j6,a⟩
 refine A [6,61,39,57] ?_
 refine zAD U ?_ ?_
 ·refine A [72,61,38] fun k f=>?_
  refine zAr (T:=tab) zAA a k (zAt f) U U U U U U U U (A [57,61,44] (fun q _=>?_) zLm [(900000,900001)])
  refine A [57] ?_
  refine zAD U ?_ ?_
  ·refine A [93,38] fun j d=>?_
   refine zCg (T:=tab) zAA a j k (zAt d) U U U U U U U U U U U U U (A [0,14,1,16] fun g _=>?_)
   refine A [1,11,70,1,16] fun h _=>?_
   exact A [89] (tx (g,h,(a.set (e).toNat k)))
  ·refine A [4,70,1,16] fun i _=>?_
   exact A [89] (tx (e,i,a))
 ·refine A [86,61] ?_
  refine zYG (T:=tab) zAA a (0:Int) (S':=fun b=>[(900000,.arr 3 1 (b.map zAA)),(900001,.box 24 (zAC c))]) U U U U U U U U U U U U U U U U U U (fun _=>U) fun b _=>A [0,61] ?_
  exact zJB (T:=tab) zAA b U U U U U U U U U U U fun n _=>A [57,8]
def zF0 (fu:Nat) (a:Forest) (b:Int):Option (List Int):=bnd (zDg fu a b) fun c=>bnd (zDI fu (fun e=>zDh fu e a) c) fun d=>some d
theorem zSA {fu:Nat} {a:Forest} {b:Int}:FF (zF0 fu a b) 164 [.agg (zAC a),Z b] [] [] (fun _=>.own 2070) fun r=>[(2070,.arr 3 1 (r.map zAA))]:=by
 refine fcI Tryz.func164 U (A [73,57,61,43] (fun c _=>?_) zJ4 [(1035,2070)] [2070])
 refine A [1,43] (fun d _=>?_) zKb [(900000,2070),(900001,2)] [2070]
 exact A [57,8]
def zCo (d:Note) (c:List Int):Nat->Int×Int×(List Note)->Option (List Note)
 | 0,_=>none
 | k1+1,(t7,c8,l9)=>cnd (decide (t7<(c.length:Int))) (bnd (idx c t7) fun a=>bnd (zDE 88 (l9.length+([({d with Node:=a}:Note)]:List Note).length)) fun _=>bnd (rng .i64 (t7+1)) fun b=>(zCo d c k1) (b,a,(l9++[({d with Node:=a}:Note)]))) (some l9)
def zD6 (fu:Nat) (d:Int) (a:Note) (b:Int) (l4:List (Node×Bool)) (c:List Note):Option (List Note):=bnd (zF0 fu (⟨(l4.map Prod.fst),b⟩:Forest) d) fun e=>(zCo a e) fu (0,a.Node,c)
theorem zHf {fu:Nat} {h:Int} {a:Note} {d:Int} {l4:List (Node×Bool)} {k:List Note}:FF (zD6 fu h a d l4 k) 99 [.loc 900000 0,Z h,.agg (zBF a)] [(900000,.box 131 [.own 900001,Z d,.own 900002]),(900001,.tre 77 10 6 3 (l4.map nB)),(900002,.arr 192 9 (k.map zBF))] [900000,900001] (fun _=>.tup []) fun r=>[(900000,.box 131 [.own 900001,Z d,.own 900002]),(900001,.tre 77 10 6 3 (l4.map nB)),(900002,.arr 192 9 (r.map zBF))]:=by
 refine fcI Tryz.func99 U (A [9,30,5,0,9,105] ?_)
 refine zNz (ps:=[.agg [.own 900001,Z d],Z h]) [(900001,.sl 10 false ((l4.map Prod.fst).map zAV))] [2130] (enc:=fun (c:(List Int))=>.own 2130) (Sr:=fun (c:(List Int))=>[(2130,.arr 3 1 (c.map zAA))]) (qs:=[.agg (zAC (⟨(l4.map Prod.fst),d⟩:Forest)),Z h]) (Sc:=[]) (N0:=[]) (NR:=[2130]) (fun c e=>zPr [(2070,2130)] [2070] (zSA _ e) U U U U U U) trivial (fun _=>U) U U U U U U U (fun _=>U) (fun _=>U) ⟨zOh (nB) Prod.fst zAV l4 (fun _=>U) (fun _=>U) U,trivial⟩ U U (fun _=>U) (fun _=>by first | rfl | simp [zLp,zC6,zAA]) U U U ⟨⟨_,U,.rfl⟩,⟨_,U,.rfl⟩,trivial⟩ zfQ U U fun c e=>A [39,57,13] ?_
 refine lw (zCo a c) [0,5,13,14] [2130,900000,900001] (fun (l,i,g)=>[(15,Z l)]) (fun (l,i,g)=>[(5,.box 192 [Z a.Kind,Z i,Z a.From,Z a.To,O a.Name,Y a.Had,Y a.Has,O a.Old,O a.New]),(900002,.arr 192 9 (g.map zBF))]) fu (0,a.Node,k) U U ?_
 rintro m ⟨l,i,g⟩
 refine A [75] ?_
 refine zAD U ?_ ?_
 ·refine A [72,9,38] fun b f=>?_
  refine zAr (T:=tab) zAA c b (zAt f) U U U U U U U U (A [57,61,12,0,52,5,5,0,5,13,14,15,2130,5,900000,900001,900002,53,11,0,0,2,6,14,0,32,126,255,511,1023,206] ?_)
  refine vS [52] [54,55] [27] U U (pl ([({a with Node:=b}:Note)].map zBF) 27 U U U U U U (pyq U)) U U (vU [50,54,55,1800001,1800005] [56,50,1800001,1800005] [900002] U U (pa zBF g ([({a with Node:=b}:Note)]:List Note) U U U U U U U U (zKj _) U U U (pyq U)) U U fun _ _=>A [202,50,4,1,56,60,1800001,1800005,1800001,19,94] fun j _=>?_)
  exact A [89] (tx (j,b,(g++[({a with Node:=b}:Note)])))
 ·exact zUH U (zKP (T:=tab) U U U ⟨U,U⟩ ⟨U,U,U,trivial⟩ U)
def zBy (a:Int) (l2:List Int):Nat->Int->Option Int
 | 0,_=>none
 | k1+1,t3=>cnd (decide (t3<(l2.length:Int))) (bnd (idx l2 t3) fun c=>cnd (a==c) (some t3) (bnd (rng .i64 (t3+1)) fun b=>(zBy a l2 k1) b)) (some (-1))
def zCx (fu:Nat) (a:Int) (l2:List Int):Option Int:=(zBy a l2) fu 0
theorem zHW {fu:Nat} {b:Int} {l2:List Int}:FF (zCx fu b l2) 97 [.own 900000,Z b] [(900000,.arr 3 1 (l2.map zAA))] [900000] (fun r=>Z r) fun _=>[(900000,.arr 3 1 (l2.map zAA))]:=by
 refine fcI Tryz.func97 U (A [75,80,39,57,13] ?_)
 refine lw (zBy b l2) [0,1,7] [900000] (fun c=>[(8,Z c)]) (fun _=>[]) fu 0 U U ?_
 rintro f c
 refine A [75,10,2,86,59,72,62,93,38] fun e a=>?_
 refine zAr (T:=tab) zAA l2 e (zAt a) U U U U U U U U (A [57,5,2,62,8,4,94] fun d _=>?_)
 exact A [89] (tx d)
def zFA (_fu:Nat) (b j2:Int) (a:List Int):Option (List Int):=bnd (cut3 a.length b j2 (a.length:Int)) fun _=>cnd (b==j2) (some a) (bnd (zNP a.length 0 b) fun _=>bnd (zNP a.length j2 (a.length:Int)) fun _=>bnd (delB a.length (b).toNat (j2).toNat ((a.length:Int)).toNat) fun _=>bnd (zNP (zOW a (b).toNat (j2).toNat).length ((((b).toNat+(((a.length:Int)).toNat - (j2).toNat)):Nat):Int) (a.length:Int)) fun _=>bnd (zej (zOW a (b).toNat (j2).toNat).length (((((b).toNat+(((a.length:Int)).toNat - (j2).toNat)):Nat):Int)).toNat ((a.length:Int)).toNat) fun _=>bnd (zZT (zPm (zOW a (b).toNat (j2).toNat) (((((b).toNat+(((a.length:Int)).toNat - (j2).toNat)):Nat):Int)).toNat (0:Int)).length ((b).toNat+(((a.length:Int)).toNat - (j2).toNat))) fun _=>some ((zPm (zOW a (b).toNat (j2).toNat) (((((b).toNat+(((a.length:Int)).toNat - (j2).toNat)):Nat):Int)).toNat (0:Int)).take ((b).toNat+(((a.length:Int)).toNat - (j2).toNat))))
theorem zND {fu:Nat} {b j2:Int} {a:List Int}:FF (zFA fu b j2 a) 100 [.own 900000,Z b,Z j2] [(900000,.arr 3 1 (a.map zAA))] [] (fun _=>.own 900000) fun r=>[(900000,.arr 3 1 (r.map zAA))]:=by
 refine fcI Tryz.func100 U (A [58,76,39] ?_)
 refine zbZ (T:=tab) (L:=a.length) U U U U U U U U (by simp) U U (A [0,6,93,0,5,2,62,8,67,80,39,57,6,52,4,1,0,1,2,7,900000,53,8,0,0,3,0,0,24,63,127,202] ?_)
 refine vU [40,42,1800001] [44] [] U U (zN2 (T:=tab) (L:=a.length) (.inl U) U U U U (by simp) U U U U U (pyq U)) U U fun _ _=>vq 2 U (by kernel_rfl) (vU [46,48,1800001] [50] [] U U (zN2 (T:=tab) (L:=a.length) (.inl U) U U U U (by simp) U U U U U (pyq U)) U U fun _ _=>vU [44,50,1800001] [52,1800001] [] U U (zPy (T:=tab) zAA a U U U U U U U U U (zCy _) U U U (pyq U)) U U fun _ _=>A [201,79,61] ?_)
 refine zVa (T:=tab) U U U U U U U U U (pq 1 U (zN2 (T:=tab) (L:=(zOW a (b).toNat (j2).toNat).length) (.inr ⟨_,U⟩) U U U U (by simp) U U U U U (zNy (T:=tab) zAA (zOW a (b).toNat (j2).toNat) (0:Int) U U U U U U U U U U U U U U (A [0,62] ?_))))
 exact zVe 6 zAA (zPm (zOW a (b).toNat (j2).toNat) (((((b).toNat+(((a.length:Int)).toNat - (j2).toNat)):Nat):Int)).toNat (0:Int)) U U U U U rN
def zFM (fu:Nat) (h:Int) (a:List (Node×Bool)) (e:Node×Bool) (i:List Note):Option ((List (Node×Bool))×(List Note)):=bnd (idx a e.1.Parent) fun f=>bnd (zSL f.2) fun _=>bnd (zCx fu h f.1.Kids) fun b=>bnd (idx a e.1.Parent) fun j=>bnd (rng .i64 (b+1)) fun g=>bnd (zFA fu b g f.1.Kids) fun c=>bnd (idx a e.1.Parent) fun k=>bnd (idx (a.set (e.1.Parent).toNat (({f.1 with Kids:=c}:Node),true)) h) fun d=>some (((a.set (e.1.Parent).toNat (({f.1 with Kids:=c}:Node),true)).set (h).toNat (({d.1 with Parent:=(-1)}:Node),d.2)),i)
def zDe (fu:Nat) (b d:Int) (a:List (Node×Bool)) (l4:List Note):Option ((List (Node×Bool))×(List Note)):=bnd (idx a b) fun c=>cnd (c.1.Parent==(-1)) (some (a,l4)) (bnd (zDT fu (⟨(a.map Prod.fst),d⟩:Forest) b) fun e=>cnd e (bnd (zD6 fu b (⟨2,0,0,0,[],false,false,[],[]⟩:Note) d a l4) fun f=>(zFM fu b a c) f) ((zFM fu b a c) l4))
theorem zGa {fu:Nat} {i e:Int} {a:List (Node×Bool)} {l4:List Note}:FF (zDe fu i e a l4) 54 [.loc 900000 0,Z i] [(900000,.box 131 [.own 900001,Z e,.own 900002]),(900001,.tre 77 10 6 3 (a.map nB)),(900002,.arr 192 9 (l4.map zBF))] [900000,900001] (fun _=>.tup []) fun r=>[(900000,.box 131 [.own 900001,Z e,.own 900002]),(900001,.tre 77 10 6 3 (r.1.map nB)),(900002,.arr 192 9 (r.2.map zBF))]:=by
 refine fcI Tryz.func54 U (A [9,106] ?_)
 refine zBP (T:=tab) a (by simp) U U U U U U U U fun p j=>pq 1 U (zEb (T:=tab) (zHU (f:=nB) (zAt j)) U U U U U U U U (A [57,6,62,5,1,8,68,9,105] ?_))
 refine zNz (ps:=[.agg [.own 900001,Z e],Z i]) [(900001,.sl 10 false ((a.map Prod.fst).map zAV))] [] (enc:=fun (m:Bool)=>Y m) (Sr:=fun (m:Bool)=>[]) (qs:=[.agg (zAC (⟨(a.map Prod.fst),e⟩:Forest)),Z i]) (Sc:=[]) (N0:=[]) (NR:=[]) zHE trivial (fun _=>U) U U U U U U U (fun _=>U) (fun _=>U) ⟨zOh (nB) Prod.fst zAV a (fun _=>U) (fun _=>U) U,trivial⟩ U U (fun _=>U) (fun _=>by first | rfl | simp [zLp,zC6,zAA]) U U U ⟨⟨_,U,.rfl⟩,⟨_,U,.rfl⟩,trivial⟩ zei U U fun m _=>ns (jw (zFM fu i a p) [0,1,4] [900000,900001] (fun _=>[]) (fun s=>[(900002,.arr 192 9 (s.map zBF))]) U U ?_ fun g=>?_)
 ·rintro s
  refine A [7,9,106] ?_
  refine zBP (T:=tab) a (by simp) U U U U U U U U fun q k=>pq 1 U (zUD (T:=tab) 700035 (zHU (f:=nB) (zAt k)) U U U U U U U U U U U U U U U (A [1,44] (fun t _=>?_) zHW [(900000,700035)]))
  refine A [57,6,52,4,4,0,1,4,5,700035,900000,900001,900002,96] ?_
  refine vT [96,98,1800003] [100] [] U U (zPN (T:=tab) a (by simp) U U U U U U U U fun n _=>pzq U) (fun _=>U) (fun _=>U) fun n _=>vq 1 U (by kernel_rfl) (vS [102,1800003] [104] [] U U (zN0 (T:=tab) U U U U U U U (pyq U)) U U (vq 2 U (by kernel_rfl) (vT [108] [110] [] U U (zMZ (T:=tab) U U U U fun l _=>pzq U) (fun _=>U) (fun _=>U) fun l _=>A [55,5,4,104,106,110,1400071,1800003,112,104,1400071,1800003] (fun c _=>?_) zND [(900000,700035)] [700035])))
  refine vT [84,86,1800003] [114] [] U U (zPN (T:=tab) a (by simp) U U U U U U U U fun o b=>pzq U) (fun _=>U) (fun _=>U) fun o b=>vq 1 U (by kernel_rfl) (vS [112,116,1400071,1800003] [112,1400071,1800003] [] U U (zbd 900001 U U (zUB (T:=tab) (zWr (zAt b)) (zTo (f:=nB) ((({q.1 with Kids:=c}:Node),true):Node×Bool) (by rfl)) U U U U U U U U U U U (pyq U))) U U (A [79,14,106] ?_))
  exact zBP (T:=tab) (a.set (p.1.Parent).toNat (({q.1 with Kids:=c}:Node),true)) (by simp) U U U U U U U U fun d h=>pq 1 U (zKC (T:=tab) (nB) (a.set (p.1.Parent).toNat (({q.1 with Kids:=c}:Node),true)) d ((({d.1 with Parent:=(-1)}:Node),d.2):Node×Bool) (zAt h) U U U U U U U U U U U U U U U (zGE (zKP (T:=tab) U U U ⟨U,U⟩ ⟨U,U,U,trivial⟩ U)))
 ·refine zAD U ?_ ?_
  ·refine A [14,2,20,43] (fun u _=>?_) zHf [(900000,900000),(900001,900001),(900002,900002)] [900002]
   exact A [11,45] (g u)
  ·exact A [4,45] (g l4)
def zDS (fu:Nat) (h a g:Int) (i:(List (Node×Bool))×(List Note)) (j:Node×Bool) (f:List Int):Nat->Int×(List (Node×Bool))->Option ((List (Node×Bool))×(List Note))
 | 0,_=>none
 | k1+1,(t9,l10)=>cnd (decide (t9<(f.length:Int))) (bnd (idx f t9) fun b=>bnd (idx l10 b) fun c=>bnd (rng .i64 (t9+1)) fun d=>(zDS fu h a g i j f k1) (d,(l10.set (b).toNat (({c.1 with Doc:=a}:Node),c.2)))) (bnd (zD6 fu h (⟨3,0,j.1.Doc,a,[],false,false,[],[]⟩:Note) g l10 i.2) fun e=>some (l10,e))
def zGb (fu:Nat) (c a d:Int) (l4:List (Node×Bool)) (f:List Note):Option ((List (Node×Bool))×(List Note)):=bnd (zDe fu c d l4 f) fun b=>bnd (idx b.1 c) fun e=>cnd (e.1.Doc==a) (some (b.1,b.2)) (bnd (zDg fu (⟨(b.1.map Prod.fst),d⟩:Forest) c) fun g=>(zDS fu c a d b e g) fu (0,b.1))
end Go.Proofs.YtmfbghpealgaiaaGreatDoor
