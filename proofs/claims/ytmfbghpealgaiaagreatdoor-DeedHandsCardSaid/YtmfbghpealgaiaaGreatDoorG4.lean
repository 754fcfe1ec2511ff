/- Models and proofs, printed by emit2.py. -/
import Derived.Test.YtmfbghpealgaiaaGreatDoorG3
namespace Go.Proofs.YtmfbghpealgaiaaGreatDoor
open Go Go.Pw
set_option maxRecDepth 100000
set_option maxHeartbeats 10000000
set_option linter.unusedVariables false
theorem zOz {fu:Nat} {i a d:Int} {o:List (Node×Bool)} {p:List Note}:FF (zGR fu i a d o p) 96 [.loc 900000 0,Z i,Z a] [(900000,.box 131 [.own 900001,Z d,.own 900002]),(900001,.tre 77 10 6 3 (o.map nB)),(900002,.arr 192 9 (p.map zBG))] [900000,900001] (fun _=>.tup []) fun r=>[(900000,.box 131 [.own 900001,Z d,.own 900002]),(900001,.tre 77 10 6 3 (r.1.map nB)),(900002,.arr 192 9 (r.2.map zBG))]:=by
 refine fcI Tryz.func96 U (A [61,43] (fun e _=>?_) zGQ [(900000,900000),(900001,900001),(900002,900002)] [900002])
 refine A [0,9,106] ?_
 refine zBT (T:=tab) e.1 (by simp) U U U U U U U U fun s k=>pq 1 U (zEd (T:=tab) (zHN (f:=nB) (zAu k)) U U U U U U U U (A [57,6,93,0,5,1,8,68,9,105] ?_))
 refine zNt (ps:=[.agg [.own 900001,Z d],Z i]) [(900001,.sl 10 false ((e.1.map Prod.fst).map zAX))] [2290] (enc:=fun (j:(List Int))=>.own 2290) (Sr:=fun (j:(List Int))=>[(2290,.arr 3 1 (j.map zAB))]) (qs:=[.agg (zAD (⟨(e.1.map Prod.fst),d⟩:Forest)),Z i]) (Sc:=[]) (N0:=[]) (NR:=[2290]) (fun j g=>zPr [(1035,2290)] [1035] (zJx _ g) U U U U U U) trivial (fun _=>U) U U U U U U U (fun _=>U) (fun _=>U) ⟨zOg (nB) Prod.fst zAX e.1 (fun _=>U) (fun _=>U) U,trivial⟩ U U (fun _=>U) (fun _=>by first | rfl | simp [zLh,zDM,zAB]) U U U ⟨⟨_,U,.rfl⟩,⟨_,U,.rfl⟩,trivial⟩ zWR U U fun j g=>A [33,2290,77,13] ?_
 refine lw (zDj fu i a d e s j) [0,1,2,6,29,30] [900000,900002] (fun (m,b)=>[(31,Z m)]) (fun (m,b)=>[(900001,.tre 77 10 6 3 (b.map nB))]) fu (0,e.1) U U ?_
 rintro t ⟨m,b⟩
 refine A [75] ?_
 refine zAE U ?_ ?_
 ·refine A [72,9,36] fun n _=>?_
  refine A [2,0,14,107] ?_
  refine zBT (T:=tab) b (by simp) U U U U U U U U fun c h=>pq 1 U (zJ5 (T:=tab) (nB) b c ((({c.1 with Doc:=a}:Node),c.2):Node×Bool) (zAu h) U U U U U U U U U U U U U U U (A [11,94] fun l _=>?_))
  exact A [89] (tx (l,(b.set (n).toNat (({c.1 with Doc:=a}:Node),c.2))))
 ·refine A [86,14,104,20,43] (fun q _=>?_) zHa [(900000,900000),(900001,900001),(900002,900002)] [900002]
  exact zF6 (zKM (T:=tab) U U U ⟨U,U⟩ ⟨U,U,U,trivial⟩ U)
def zFO (fu:Nat) (p2 m h b:Int) (a:(List (Node×Bool))×(List Note)) (d:Node×Bool) (g:(Int×(List (Node×Bool))×(List Note))->Option ((List (Node×Bool))×(List Note))) (f:Int):Option ((List (Node×Bool))×(List Note)):=bnd (idx a.1 p2) fun n=>bnd (zMg fu d.1.Kids f [b]) fun e=>bnd (idx a.1 p2) fun o=>bnd (idx (a.1.set (p2).toNat (({d.1 with Kids:=e}:Node),true)) b) fun c=>bnd (zDk fu (⟨(((a.1.set (p2).toNat (({d.1 with Kids:=e}:Node),true)).set (b).toNat (({c.1 with Parent:=p2}:Node),c.2)).map Prod.fst),m⟩:Forest) b) fun k=>cnd k (bnd (zEF fu b (⟨1,0,0,0,[],false,false,[],[]⟩:Note) m ((a.1.set (p2).toNat (({d.1 with Kids:=e}:Node),true)).set (b).toNat (({c.1 with Parent:=p2}:Node),c.2)) a.2) fun l=>bnd (rng .i64 (h+1)) fun i=>g (i,((a.1.set (p2).toNat (({d.1 with Kids:=e}:Node),true)).set (b).toNat (({c.1 with Parent:=p2}:Node),c.2)),l)) (bnd (rng .i64 (h+1)) fun j=>g (j,((a.1.set (p2).toNat (({d.1 with Kids:=e}:Node),true)).set (b).toNat (({c.1 with Parent:=p2}:Node),c.2)),a.2))
def zA2 (fu:Nat) (p2 a e:Int) (f:List Int):Nat->Int×(List (Node×Bool))×(List Note)->Option ((List (Node×Bool))×(List Note))
 | 0,_=>none
 | k2+1,(t17,l18,l19)=>cnd (decide (t17<(f.length:Int))) (bnd (idx f t17) fun d=>bnd (idx l18 p2) fun h=>bnd (zGR fu d h.1.Doc e l18 l19) fun c=>bnd (idx c.1 p2) fun b=>bnd (zT0 b.2) fun _=>cnd (a != (-1)) (bnd (idx c.1 p2) fun i=>bnd (zDE fu a b.1.Kids) fun g=>(zFO fu p2 e t17 d c b (zA2 fu p2 a e f k2)) g) ((zFO fu p2 e t17 d c b (zA2 fu p2 a e f k2)) (b.1.Kids.length:Int))) (some (l18,l19))
def zED (fu:Nat) (p2 a b:Int) (c:List Int) (d:(List (Node×Bool))×(List Note)):Option ((List (Node×Bool))×(List Note)):=match d with
 | (l15,l16)=>(zA2 fu p2 a b c) fu (0,l15,l16)
def zEE (fu:Nat) (p2 a d:Int) (c:List Int):Nat->Int×(List (Node×Bool))×(List Note)->Option ((List (Node×Bool))×(List Note))
 | 0,_=>none
 | k1+1,(t9,l10,l11)=>cnd (decide (t9<(c.length:Int))) (bnd (idx c t9) fun f=>bnd (zDs fu f d l10 l11) fun b=>bnd (rng .i64 (t9+1)) fun e=>(zEE fu p2 a d c k1) (e,b.1,b.2)) ((zED fu p2 a d c) (l10,l11))
def zEl (fu:Nat) (e p2 a c:Int) (b:List (Node×Bool)) (d:List Note):Option ((List (Node×Bool))×(List Note)):=bnd (zIu fu (⟨(b.map Prod.fst),c⟩:Forest) e) fun f=>bnd (idx b e) fun g=>cnd (g.1.Kind==3) ((zEE fu p2 a c f) fu (0,b,d)) ((zED fu p2 a c f) (b,d))
theorem zLf {fu:Nat} {G p2 a h:Int} {p:List (Node×Bool)} {F:List Note}:FF (zEl fu G p2 a h p F) 50 [.loc 900000 0,Z G,Z p2,Z a] [(900000,.box 131 [.own 900001,Z h,.own 900002]),(900001,.tre 77 10 6 3 (p.map nB)),(900002,.arr 192 9 (F.map zBG))] [900000,900001] (fun _=>.tup []) fun r=>[(900000,.box 131 [.own 900001,Z h,.own 900002]),(900001,.tre 77 10 6 3 (r.1.map nB)),(900002,.arr 192 9 (r.2.map zBG))]:=by
 refine fcI Tryz.func50 U (A [9,105] ?_)
 refine zNt (ps:=[.agg [.own 900001,Z h],Z G]) [(900001,.sl 10 false ((p.map Prod.fst).map zAX))] [2190] (enc:=fun (j:(List Int))=>.own 2190) (Sr:=fun (j:(List Int))=>[(2190,.arr 3 1 (j.map zAB))]) (qs:=[.agg (zAD (⟨(p.map Prod.fst),h⟩:Forest)),Z G]) (Sc:=[]) (N0:=[]) (NR:=[2190]) (fun j x=>zPr [(2250,2190)] [2250] (zSD _ x) U U U U U U) trivial (fun _=>U) U U U U U U U (fun _=>U) (fun _=>U) ⟨zOg (nB) Prod.fst zAX p (fun _=>U) (fun _=>U) U,trivial⟩ U U (fun _=>U) (fun _=>by first | rfl | simp [zLh,zDM,zAB]) U U U ⟨⟨_,U,.rfl⟩,⟨_,U,.rfl⟩,trivial⟩ call95 U U fun j x=>A [57,6,9,106] ?_
 refine zBT (T:=tab) p (by simp) U U U U U U U U fun y8 H=>pq 1 U (zEd (T:=tab) (zHN (f:=nB) (zAu H)) U U U U U U U U (A [57] ?_))
 refine jw (zED fu p2 a h j) [0,2,3,8] [2190,900000] (fun _=>[]) (fun (q,s)=>[(900001,.tre 77 10 6 3 (q.map nB)),(900002,.arr 192 9 (s.map zBG))]) U U ?_ fun v=>?_
 ·rintro ⟨q,s⟩
  refine A [7,80,39,57,13] ?_
  refine lw (zA2 fu p2 a h j) [0,2,3,40,41] [2190,900000] (fun (n,m,t)=>[(42,Z n)]) (fun (n,m,t)=>[(900001,.tre 77 10 6 3 (m.map nB)),(900002,.arr 192 9 (t.map zBG))]) fu (0,q,s) U U ?_
  rintro V ⟨n,m,t⟩
  refine A [75] ?_
  refine zAE U ?_ ?_
  ·refine A [72,9,38] fun d z=>?_
   refine zAr (T:=tab) zAB j d (zAu z) U U U U U U U U (A [57,9,108] ?_)
   refine zBT (T:=tab) m (by simp) U U U U U U U U fun W B=>pq 1 U (zEd (T:=tab) (zHN (f:=nB) (zAu B)) U U U U U U U U (A [43] (fun b _=>?_) zOz [(900000,900000),(900001,900001),(900002,900002)] [900002]))
   refine A [0,9,106] ?_
   refine zBT (T:=tab) b.1 (by simp) U U U U U U U U fun e C=>pq 1 U (zT9 (T:=tab) 700066 (zHN (f:=nB) (zAu C)) U U U U U U U U U U U U U U U (A [39,57,6,62] ?_))
   refine jw (zFO fu p2 h n d b e (zA2 fu p2 a h j V)) [0,2,3,12,40,41,42] [700066,900000,900001,900002,2190] (fun i=>[(13,Z i)]) (fun _=>[]) U U ?_ fun w=>?_
   ·rintro i
    refine A [7,6,52,8,5,0,2,3,12,13,40,41,42,700066,900000,900001,900002,2190,96] ?_
    refine vT [182,184,1800003] [186] [] U U (zPN (T:=tab) b.1 (by simp) U U U U U U U U fun Q _=>pzq U) (fun _=>U) (fun _=>U) fun Q _=>vq 1 U (by kernel_rfl) (vS [188,1800003] [190] [] U U (zNu (T:=tab) U U U U U U U (pyq U)) U U (vq 2 U (by kernel_rfl) (vS [194] [196,197] [98] U U (pl ([d].map zAB) 98 U U U U U U (pyq U)) U U (vT [190,192,196,197,1400133,1800003] [198,190,1400133,1800003] [700066] U U (tq [(700066,700066),(98,98)] [700066] (za4 fu 700066 98 e.1.Kids i [d]) U U U U U U U U fun g _=>pzq U) (fun _=>U) (fun _=>U) fun g _=>vT [170,172,1800003] [200] [] U U (zPN (T:=tab) b.1 (by simp) U U U U U U U U fun S o=>pzq U) (fun _=>U) (fun _=>U) fun S o=>vq 1 U (by kernel_rfl) (vS [198,202,1400133,1800003] [198,1400133,1800003] [] U U (zbi 900001 U U (zT6 (T:=tab) (zWo (zAu o)) (zTk (f:=nB) ((({e.1 with Kids:=g}:Node),true):Node×Bool) (by rfl)) U U U U U U U U U U U (pyq U))) U U (A [79,9,107] ?_))))))
    refine zBT (T:=tab) (b.1.set (p2).toNat (({e.1 with Kids:=g}:Node),true)) (by simp) U U U U U U U U fun c D=>pq 1 U (zJ5 (T:=tab) (nB) (b.1.set (p2).toNat (({e.1 with Kids:=g}:Node),true)) c ((({c.1 with Parent:=p2}:Node),c.2):Node×Bool) (zAu D) U U U U U U U U U U U U U U U (A [0,9,105] ?_))
    refine zNt (ps:=[.agg [.own 900001,Z h],Z d]) [(900001,.sl 10 false ((((b.1.set (p2).toNat (({e.1 with Kids:=g}:Node),true)).set (d).toNat (({c.1 with Parent:=p2}:Node),c.2)).map Prod.fst).map zAX))] [] (enc:=fun (u:Bool)=>Y u) (Sr:=fun (u:Bool)=>[]) (qs:=[.agg (zAD (⟨(((b.1.set (p2).toNat (({e.1 with Kids:=g}:Node),true)).set (d).toNat (({c.1 with Parent:=p2}:Node),c.2)).map Prod.fst),h⟩:Forest)),Z d]) (Sc:=[]) (N0:=[]) (NR:=[]) zG5 trivial (fun _=>U) U U U U U U U (fun _=>U) (fun _=>U) ⟨zOg (nB) Prod.fst zAX ((b.1.set (p2).toNat (({e.1 with Kids:=g}:Node),true)).set (d).toNat (({c.1 with Parent:=p2}:Node),c.2)) (fun _=>U) (fun _=>U) U,trivial⟩ U U (fun _=>U) (fun _=>by first | rfl | simp [zLh,zDM,zAB]) U U U ⟨⟨_,U,.rfl⟩,⟨_,U,.rfl⟩,trivial⟩ zeb U U fun u _=>ns (zAE U ?_ ?_)
    ·refine A [14,2,20,43] (fun M _=>?_) zHa [(900000,900000),(900001,900001),(900002,900002)] [900002]
     refine A [11,94] fun J _=>?_
     exact A [89] (tx (J,((b.1.set (p2).toNat (({e.1 with Kids:=g}:Node),true)).set (d).toNat (({c.1 with Parent:=p2}:Node),c.2)),M))
    ·refine A [4,94] fun K _=>?_
     exact A [89] (tx (K,((b.1.set (p2).toNat (({e.1 with Kids:=g}:Node),true)).set (d).toNat (({c.1 with Parent:=p2}:Node),c.2)),b.2))
   ·refine zAE U ?_ ?_
    ·refine A [14,106] ?_
     refine zPN (T:=tab) b.1 (by simp) U U U U U U U U fun X _=>pq 1 U (zNu (T:=tab) U U U U U U U (A [1,44] (fun L _=>?_) zHP [(900000,700066)]))
     exact A [1,11,45] (w L)
    ·exact A [4,45] (w (e.1.Kids.length:Int))
  ·exact zUD U (zKM (T:=tab) U U U ⟨U,U⟩ ⟨U,U,U,trivial⟩ U)
 ·refine zAE U ?_ ?_
  ·refine A [80,39,57,13] ?_
   refine lw (zEE fu p2 a h j) [0,2,3,8,30,31] [2190,900000] (fun (N,k,l)=>[(32,Z N)]) (fun (N,k,l)=>[(900001,.tre 77 10 6 3 (k.map nB)),(900002,.arr 192 9 (l.map zBG))]) fu (0,p,F) U U ?_
   rintro k1 ⟨N,k,l⟩
   refine A [75] ?_
   refine zAE U ?_ ?_
   ·refine A [72,9,38] fun P y=>?_
    refine zAr (T:=tab) zAB j P (zAu y) U U U U U U U U (A [57,14,2,43] (fun E _=>?_) zGQ [(900000,900000),(900001,900001),(900002,900002)] [900002])
    refine A [11,94] fun I _=>?_
    exact A [89] (tx (I,E.1,E.2))
   ·exact A [17,45] (v (k,l))
  ·exact A [4,45] (v (p,F))
def zG1 (fu:Nat) (d a b:Int) (e:Forest) (f:Int) (g:List (Node×Bool)) (h:List Note):Option ((Option (Bs×Int))×(List (Node×Bool))×(List Note)):=bnd (zHz fu e a b f) fun i=>bnd (zEl fu a b i d g h) fun c=>some (none,c.1,c.2)
theorem zP2 {fu:Nat} {a b c:Int} {d:Forest} {e:Int} {f:List (Node×Bool)} {g:List Note}:FF (zG1 fu a b c d e f g) 49 [.loc 900000 0,.loc 900001 0,.loc 900002 0,.loc 900003 0,.loc 900004 0] [(900000,.box 131 [.own 900005,Z a,.own 900006]),(900001,.box 3 [Z b]),(900002,.box 3 [Z c]),(900003,.box 24 (zAD d)),(900004,.box 3 [Z e]),(900005,.tre 77 10 6 3 (f.map nB)),(900006,.arr 192 9 (g.map zBG))] [900000,900001,900002,900003,900004,900005] (fun r=>.v (zRR 181 179 r.1)) fun r=>[(900000,.box 131 [.own 900005,Z a,.own 900006]),(900001,.box 3 [Z b]),(900002,.box 3 [Z c]),(900003,.box 24 (zAD d)),(900004,.box 3 [Z e]),(900005,.tre 77 10 6 3 (r.2.1.map nB)),(900006,.arr 192 9 (r.2.2.map zBG))]:=by
 refine fcI Tryz.func49 U (A [75,52,5,7,0,1,2,3,4,900000,900001,900002,900003,900004,900005,900006,53,9,0,0,0,0,0,0,0,120,255,207,54,4,1,20,22,24,26,28] (fun h _=>?_) zQ8)
 refine A [55,7,4,14,16,18,28,1800001,1800011,1800013,30,1800011,1800013,1800001] (fun i _=>?_) zLf [(900000,900000),(900001,900005),(900002,900006)] [900006]
 exact A [79,59]
def zDO (fu:Nat) (g:Int->(List (Node×Bool))->(List Note)->Option ((Option (Bs×Int))×(List (Node×Bool))×(List Note))) (d:Forest) (a:Option (Bs×Int)):Option (Forest×(List Note)×Int):=bnd (zKU fu d) fun b=>cnd a.isNone (bnd (g b.2.1 b.2.2.1 b.2.2.2) fun c=>cnd c.1.isSome (bnd (zcR fu c.1) fun f=>some (d,([]:List Note),f)) (some ((⟨(c.2.1.map Prod.fst),b.2.1⟩:Forest),c.2.2,0))) (cnd a.isSome (bnd (zcR fu a) fun e=>some (d,([]:List Note),e)) (some ((⟨(b.2.2.1.map Prod.fst),b.2.1⟩:Forest),b.2.2.2,0)))
theorem zUb {fu:Nat} {g:Forest} {a:Option (Bs×Int)} {b c:Int} {d:Forest} {e:Int}:FF (zDO fu (fun (k:Int) (l:(List (Node×Bool))) (m:(List Note))=>zG1 fu k b c d e l m) g a) 46 [.agg (zAD g),.v (zRR 181 179 a),.fn (.func 49) [] [.loc 900000 0,.loc 900001 0,.loc 900002 0,.loc 900003 0]] [(900000,.box 3 [Z b]),(900001,.box 3 [Z c]),(900002,.box 24 (zAD d)),(900003,.box 3 [Z e])] [900000,900001,900002,900003] (fun r=>.tup [.agg (zAD r.1),.own 2101102,Z r.2.2]) fun r=>[(900000,.box 3 [Z b]),(900001,.box 3 [Z c]),(900002,.box 24 (zAD d)),(900003,.box 3 [Z e]),(2101102,.arr 192 9 (r.2.1.map zBG))]:=by
 refine fcI Tryz.func46 U (A [9,30,3,31,6,2,0,80,43] (fun i _=>?_) zHc [(12,2101100),(2070,2101101),(31202,2101102)] [2101100,2101101,2101102])
 refine A [57,6,80] ?_
 refine zFL Tryz.underlying122 U U U U U U (ns (zAE U ?_ ?_))
 ·refine A [14,2,43] (fun h _=>?_) zP2 [(900000,2101100),(900001,900000),(900002,900001),(900003,900002),(900004,900003),(900005,2101101),(900006,2101102)] [2101102]
  refine A [57,6,80] ?_
  refine zFL Tryz.underlying122 U U U U U U (ns (zAE U ?_ ?_))
  ·refine A [6,81,202] ?_
   exact vT [40] [42] [] U U (pk (zLk fu h.1) U U fun j _=>pzq U) (fun _=>U) (fun _=>U) fun j _=>A [84,90,8]
  ·refine A [78,60,66,79] ?_
   exact zDn 2101101 (nB) Prod.fst zAX h.2.1 (fun _=>U) (fun _=>U) U U U rN
 ·refine A [68,80] ?_
  refine zFL Tryz.underlying122 U U U U U U (ns (zAE U ?_ ?_))
  ·refine A [6,81,202] ?_
   exact vT [40] [42] [] U U (pk (zLk fu a) U U fun f _=>pzq U) (fun _=>U) (fun _=>U) fun f _=>A [84,90,8]
  ·refine A [78,60,66,79] ?_
   exact zDn 2101101 (nB) Prod.fst zAX i.2.2.1 (fun _=>U) (fun _=>U) U U U rN
def zDU (fu:Nat) (b:Forest) (d e a:Int):Option (Forest×(List Note)×Int):=bnd (zFF fu b d e a) fun f=>bnd (zBR fu [112,117,116] f) fun g=>bnd (zDO fu (fun (h:Int) (i:(List (Node×Bool))) (j:(List Note))=>zG1 fu h d e b a i j) b g) fun c=>some (c.1,c.2.1,c.2.2)
theorem zKA {fu:Nat} {b:Forest} {c d a:Int}:DD (zDU fu b c d a) 19 [.agg (zAD b),Z c,Z d,Z a] fun r=>.tup [.agg (zAD r.1),.sl 9 false (r.2.1.map zBG),Z r.2.2]:=by
 refine fcI Tryz.func19 U (A [9,30,4,30,5,30,6,30,7,31,8,2,0,6,52,5,5,4,5,6,7,8,8,7,6,5,4,53,15,0,0,0,0,0,30,62,0,255,511,511,511,4095,8191,16383,205,54,4,1,24,26,28,30,32] (fun f _=>?_) zPg)
 refine A [54,1,1,32,34] (fun g _=>?_) zB7
 exact vq 1 U (by kernel_rfl) (vT [9,11,13,15,22,34,36] [38,4381] [2190] U U (tqG (rn:=[(900000,5),(900001,6),(900002,4),(900003,7),(2101102,2190)]) (ks:=[2190]) ⟨zUb⟩ U U U U U U U U fun e _=>zGN 2190 U U U (pzq U)) (fun _=>U) (fun _=>U) fun e _=>A [203,50,3,1,16,17,40,17,202,79,8])
def zMF (fu:Nat) (c:Forest×Int×Int) (e:Node):Nat->Int×(List Note)×(List Node)×Int->Option (Forest×Int×(List Note)×Int)
 | 0,_=>none
 | k1+1,(t8,l9,c10,c11)=>cnd (decide (t8<(e.Kids.length:Int))) (bnd (idx e.Kids t8) fun d=>bnd (zDU fu (⟨c10,c11⟩:Forest) d c.2.1 (-1)) fun a=>bnd (zDT 88 (l9.length+a.2.1.length)) fun _=>bnd (rng .i64 (t8+1)) fun b=>(zMF fu c e k1) (b,(l9++a.2.1),a.1.Nodes,a.1.Most)) (some ((⟨c10,c11⟩:Forest),c.2.1,l9,0))
def zQ4 (fu:Nat) (a:Forest) (c:Int):Option (Forest×Int×(List Note)×Int):=bnd (zGr fu a [c]) fun d=>cnd (!d) (some (a,(-1),[],1)) (bnd (idx a.Nodes c) fun e=>cnd (e.Kind==2) (some (a,(-1),[],5)) (bnd (idx a.Nodes c) fun f=>bnd (zGx fu a (⟨3,[],[],[],[],0,[],0,0,f.Doc⟩:Node)) fun b=>cnd (b.2.2 != 0) (some (a,(-1),[],b.2.2)) (bnd (idx a.Nodes c) fun g=>(zMF fu b g) fu (0,[],b.1.Nodes,b.1.Most))))
theorem zUg {fu:Nat} {f:Forest} {h:Int}:DD (zQ4 fu f h) 137 [.agg (zAD f),Z h] fun r=>.tup [.agg (zAD r.1),Z r.2.1,.sl 9 false (r.2.2.1.map zBG),Z r.2.2.2]:=by
 refine fcI Tryz.func137 U (A [73,31,4,3,0,6,13,61] ?_)
 refine pl ([h].map zAB) 20 U U U U U U (A [33,20,41] (fun n _=>?_) zHB)
 refine A [2,0] ?_
 refine zAE U ?_ ?_
 ·refine A [80,12,3,0] ?_
  exact zHL 6 (q:=.sl 9 false ([].map zBG)) U .nil rN
 ·refine A [93,36] fun o _=>?_
  refine A [104,0] ?_
  refine zAE U ?_ ?_
  ·refine A [80,12,3,0] ?_
   exact zHL 6 (q:=.sl 9 false ([].map zBG)) U .nil rN
  ·refine A [4,69,6,52,3,2,1,2,4,4,2,53,17,0,0,2,0,14,30,62,126,255,511,1023,1023,1023,0,10239,28671,65535,204] ?_
   refine vT [72,74] [76] [] U U (zBE (T:=tab) zAX f.Nodes U U U U U U U fun j _=>pzq U) (fun _=>U) (fun _=>U) fun j _=>A [202,51,1,1,80,82] ?_
   refine vT [68,82] [84] [] U U (zKN (enc:=fun (b:(Forest×Int×Int))=>.tup [.agg (zAD b.1),Z b.2.1,Z b.2.2]) (qs:=[.agg (zAD f),.agg (zAX (⟨3,[],[],[],[],0,[],0,0,j.Doc⟩:Node))]) zHw U U ⟨⟨_,U,.rfl⟩,⟨_,U,(.agg ⟨.rfl,.rfl,.rfl,.rfl,.nil,.rfl,.nil,.rfl,.rfl,.rfl,trivial⟩)⟩,trivial⟩ (fun _=>U) zfR U U fun b _=>pzq U) (fun _=>U) (fun _=>U) fun b _=>vq 4 U (by kernel_rfl) (vS [] [16,17] [8] U U (zF4 (T:=tab) 8 U U U U U U U U U (pyq U)) U U (A [50,3,1,16,17,86,17,202,79,6,62] ?_))
   refine zAE U ?_ ?_
   ·refine A [61,12,3,0] ?_
    exact zHL 6 (q:=.sl 9 false ([].map zBG)) U .nil rN
   ·refine A [67,75,93,36] fun l _=>?_
    refine A [2,77,13,56,1072,192,9,11] ?_
    refine lw (zMF fu b l) [4,8,9,11,55,56] [4] (fun (i,e,c,d)=>[(57,Z i)]) (fun (i,e,c,d)=>[(1072,.arr 192 9 (e.map zBG)),(8,.box 24 [.sl 10 false (c.map zAX),Z d])]) fu (0,[],b.1.Nodes,b.1.Most) U U ?_
    rintro m ⟨i,e,c,d⟩
    refine A [75,10,8,86,93,12,3,0,34,1072,8,72,9,36] fun k _=>?_
    refine A [2,0,93,41] (fun a _=>?_) zKA
    refine A [104,31,14,12,2,0,52,9,4,4,8,9,11,55,56,57,14,15,14,1072,8,4,53,6,0,0,0,6,15,31,203] ?_
    refine vU [22,140,142,2145] [144,22,140,2145] [1072] U U (pa zBG e a.2.1 U U U U U U U U (zKg _) U U U (pyq U)) U U fun _ _=>A [50,3,1,16,17,138,17,201,19,94] fun g _=>?_
    exact A [89] (tx (g,(e++a.2.1),a.1.Nodes,a.1.Most))
def zCa (_fu:Nat) (c:Forest) (a:List Note) (b:Int):Option zCZ:=some (⟨c,a,b⟩:zCZ)
theorem zDc {fu:Nat} {c:Forest} {a:List Note} {b:Int}:DD (zCa fu c a b) 138 [.agg (zAD c),.sl 9 false (a.map zBG),Z b] fun r=>.agg (zMc r):=by
 exact fcI Tryz.func138 U (A [9,30,3,31,6,0,93,20,12,74])
def zH7 (fu:Nat) (a:Forest) (b:Int):Option (Option (Bs×Int)):=bnd (zAo fu a) fun c=>cnd (!c) (bnd (zBR fu [97,115,107,101,100] 1) fun d=>some d) (cnd (decide (b<0)) (bnd (zBR fu [97,115,107,101,100] 1) fun e=>some e) (cnd (decide (b>=(a.Nodes.length:Int))) (bnd (zBR fu [97,115,107,101,100] 1) fun f=>some f) (some none)))
theorem zN6 {fu:Nat} {a:Forest} {b:Int}:DD (zH7 fu a b) 52 [.agg (zAD a),Z b] fun r=>.v (zRR 181 179 r):=by
 refine fcI Tryz.func52 U (A [73,57,6,80,41] (fun c _=>?_) zA3)
 refine pq 2 U (zAT (j:=8) U ?_ ?_)
 ·refine A [110,65,9,41] (fun d _=>?_) zB7
  exact A [57,8]
 ·refine pq 4 U (zAT (j:=12) U ?_ ?_)
  ·refine A [106,65,9,41] (fun e _=>?_) zB7
   exact A [57,8]
  ·refine A [3,35,2,0,10,2,67,59,9,41] (fun f _=>?_) zB7
   exact A [57,8]
def zFf (fu:Nat) (e b:Int) (a:List (Node×Bool)) (c:List Note):Option ((Option (Bs×Int))×(List (Node×Bool))×(List Note)):=bnd (idx a b) fun g=>cnd (g.1.Parent==(-1)) (bnd (zBR fu [111,117,116] 6) fun f=>some (f,a,c)) (bnd (zDs fu b e a c) fun d=>some (none,d.1,d.2))
theorem zP3 {fu:Nat} {b c:Int} {d:List (Node×Bool)} {e:List Note}:FF (zFf fu b c d e) 53 [.loc 900000 0,.loc 900001 0] [(900000,.box 131 [.own 900002,Z b,.own 900003]),(900001,.box 3 [Z c]),(900002,.tre 77 10 6 3 (d.map nB)),(900003,.arr 192 9 (e.map zBG))] [900000,900001,900002] (fun r=>.v (zRR 181 179 r.1)) fun r=>[(900000,.box 131 [.own 900002,Z b,.own 900003]),(900001,.box 3 [Z c]),(900002,.tre 77 10 6 3 (r.2.1.map nB)),(900003,.arr 192 9 (r.2.2.map zBG))]:=by
 refine fcI Tryz.func53 U (A [75,6,52,2,4,0,1,900000,900001,900002,900003,53,10,0,1,3,7,15,0,63,127,255,511,206] ?_)
 refine vT [16,18,1800005] [20] [] U U (zBT (T:=tab) d (by simp) U U U U U U U U fun g a=>pzq U) (fun _=>U) (fun _=>U) fun g a=>vq 1 U (by kernel_rfl) (vS [22,1800005] [24] [] U U (zEd (T:=tab) (zHN (f:=nB) (zAu a)) U U U U U U U U (pyq U)) U U (A [201,79] ?_))
 refine zAE U ?_ ?_
 ·refine A [9,41] (fun h _=>?_) zB7
  exact A [57,8]
 ·refine A [67,61,43] (fun i _=>?_) zGQ [(900000,900000),(900001,900002),(900002,900003)] [900003]
  exact A [0,59]
theorem zQt {fu:Nat} {c:Forest} {a:Option (Bs×Int)} {b:Int}:FF (zDO fu (fun (h:Int) (i:(List (Node×Bool))) (j:(List Note))=>zFf fu h b i j) c a) 46 [.agg (zAD c),.v (zRR 181 179 a),.fn (.func 53) [] [.loc 900000 0]] [(900000,.box 3 [Z b])] [900000] (fun r=>.tup [.agg (zAD r.1),.own 2101102,Z r.2.2]) fun r=>[(900000,.box 3 [Z b]),(2101102,.arr 192 9 (r.2.1.map zBG))]:=by
 refine fcI Tryz.func46 U (A [9,30,3,31,6,2,0,80,43] (fun e _=>?_) zHc [(12,2101100),(2070,2101101),(31202,2101102)] [2101100,2101101,2101102])
 refine A [57,6,80] ?_
 refine zFL Tryz.underlying122 U U U U U U (ns (zAE U ?_ ?_))
 ·refine A [14,2,43] (fun d _=>?_) zP3 [(900000,2101100),(900001,900000),(900002,2101101),(900003,2101102)] [2101102]
  refine A [57,6,80] ?_
  refine zFL Tryz.underlying122 U U U U U U (ns (zAE U ?_ ?_))
  ·refine A [6,52,3,3,1,3,6,6,3,900000,53,6,0,0,2,7,15,31,202] ?_
   exact vT [40] [42] [] U U (pk (zLk fu d.1) U U fun f _=>pzq U) (fun _=>U) (fun _=>U) fun f _=>A [84,90,8]
  ·refine A [68,52,2,5,6,9,2101100,2101101,2101102,6,900000,60,66,79] ?_
   exact zDn 2101101 (nB) Prod.fst zAX d.2.1 (fun _=>U) (fun _=>U) U U U rN
 ·refine A [68,80] ?_
  refine zFL Tryz.underlying122 U U U U U U (ns (zAE U ?_ ?_))
  ·refine A [6,52,3,3,1,3,6,6,3,900000,53,6,0,0,2,7,15,31,202] ?_
   exact vT [40] [42] [] U U (pk (zLk fu a) U U fun g _=>pzq U) (fun _=>U) (fun _=>U) fun g _=>A [84,90,8]
  ·refine A [68,52,2,5,6,9,2101100,2101101,2101102,6,900000,60,66,79] ?_
   exact zDn 2101101 (nB) Prod.fst zAX e.2.2.1 (fun _=>U) (fun _=>U) U U U rN
def zEK (fu:Nat) (b:Forest) (c:Int):Option (Forest×(List Note)×Int):=bnd (zH7 fu b c) fun d=>bnd (zDO fu (fun (e:Int) (f:(List (Node×Bool))) (g:(List Note))=>zFf fu e c f g) b d) fun a=>some (a.1,a.2.1,a.2.2)
theorem zHx {fu:Nat} {a:Forest} {b:Int}:FF (zEK fu a b) 20 [.agg (zAD a),Z b] [] [] (fun r=>.tup [.agg (zAD r.1),.own 2120,Z r.2.2]) fun r=>[(2120,.arr 192 9 (r.2.1.map zBG))]:=by
 refine fcI Tryz.func20 U (A [73,30,3,31,4,2,0,6,52,3,3,2,3,4,4,3,2,53,12,0,0,0,6,0,31,63,63,63,511,1023,2047,203,54,2,1,16,18,20] (fun c _=>?_) zN6)
 refine A [201,55,4,2,7,14,20,22,24,4241] (fun d _=>?_) zQt [(900000,3),(2101102,2120)] [2120]
 exact A [203,50,3,1,8,9,26,9,202,79,8]
def zJz (fu:Nat) (l1:zAf) (a:Int):Option Bool:=bnd (zAe fu l1 l1.p) fun b=>cnd (b != 2) (bnd (zEN fu l1.Forest a l1.p) fun c=>some (!c)) (some false)
theorem zNj {fu:Nat} {l1:zAf} {a:Int}:DD (zJz fu l1 a) 260 [.agg (zIQ l1),Z a] fun r=>Y r:=by
 refine fcI Tryz.func260 U (A [73,57,93,41] (fun b _=>?_) zC6)
 refine A [2,27,10,2,109,74,105,41] (fun c _=>?_) zOC
 exact A [3,74]
def zLK (fu:Nat) (c:Forest) (d e a:Int) (g:Unit):Option Int:=bnd (zDK fu (⟨c,e,a,a⟩:zAf) d) fun b=>cnd (a==(-1)) (cnd (b==0) (some 6) (bnd (zJz fu (⟨c,e,a,a⟩:zAf) d) fun f=>cnd f (some 6) (some b))) (some b)
def zPh (fu:Nat) (b:Forest) (c d a:Int):Option Int:=bnd (zER fu b [c,d]) fun e=>cnd (!e) (some 1) (cnd (a != (-1)) (bnd (zER fu b [a]) fun f=>cnd (!f) (some 1) ((zLK fu b c d a) ())) ((zLK fu b c d a) ()))
theorem zTO {fu:Nat} {e:Forest} {c d a:Int}:DD (zPh fu e c d a) 206 [.agg (zAD e),Z c,Z d,Z a] fun r=>Z r:=by
 refine fcI Tryz.func206 U (A [9,30,4,57,6,9] ?_)
 refine zLY (zLK fu e c d a) (fun (_:Unit)=>[(1,Z c),(2,Z d),(3,Z a),(4,.loc 4 0)]) (fun (_:Unit)=>[(4,.box 24 (zAD e))]) ?_ fun b=>?_
 ·rintro _
  refine A [7,76,20,31,9,12,0,99] (fun h _=>?_) zGf
  refine A [57,6,93,27,38,6,108,11,24,67,62,8,3,26,41,2,105,83,2,41] (fun i _=>?_) zNj
  exact A [2,0,5,1,59,67,62,8]
 ·refine pq 3 U (pl ([c,d].map zAB) 14 U U U U U U (A [33,14,41] (fun f _=>?_) zGH))
  refine A [2,26,17,2,110,83,3] ?_
  refine zAT (j:=20) U ?_ ?_
  ·refine pq 2 U (pl ([a].map zAB) 23 U U U U U U (A [33,23,41] (fun g _=>?_) zGH))
   exact A [3,0,5,1,59,4,45] (b ())
  ·exact A [107,11,24,4,45] (b ())
def zKC (a:Int) (d:List Int):Nat->Int->Option Int
 | 0,_=>none
 | k1+1,t9=>cnd (decide (t9<(d.length:Int))) (bnd (idx d t9) fun b=>cnd (b != a) (some b) (bnd (rng .i64 (t9+1)) fun c=>(zKC a d k1) c)) (some (-1))
def zN5 (fu:Nat) (d:Forest) (a b:Int):Option Int:=bnd (idx d.Nodes a) fun h=>bnd (idx d.Nodes h.Parent) fun c=>bnd (zCd fu c.Kids a) fun g=>bnd (rng .i64 (g+1)) fun e=>bnd (piece c.Kids e (c.Kids.length:Int)) fun f=>(zKC b f) fu 0
theorem zSA {fu:Nat} {c:Forest} {a b:Int}:DD (zN5 fu c a b) 208 [.agg (zAD c),Z a,Z b] fun r=>Z r:=by
 refine fcI Tryz.func208 U (A [9,30,3,57,6,52,3,1,1,2,3,3,53,12,0,1,0,4,0,28,60,124,255,511,1023,2047,205] ?_)
 refine vT [26,28] [30] [] U U (zBE (T:=tab) zAX c.Nodes U U U U U U U fun i _=>pzq U) (fun _=>U) (fun _=>U) fun i _=>vq 2 U (by kernel_rfl) (vT [22,34] [36] [] U U (zBE (T:=tab) zAX c.Nodes U U U U U U U fun f _=>pzq U) (fun _=>U) (fun _=>U) fun f _=>A [203,79,6,93,41] (fun l _=>?_) zGe)
 refine A [16] fun j _=>?_
 refine zeq (T:=tab) zAB f.Kids U U U U U U U U fun g _=>A [77,13] ?_
 refine lw (zKC b g) [2,26,27] [] (fun e=>[(28,Z e)]) (fun _=>[]) fu 0 U U ?_
 rintro k e
 refine A [75,10,2,86,59,72,9,36] fun h _=>?_
 refine A [2,0,93,0,5,2,62,8,4,94] fun d _=>?_
 exact A [89] (tx d)
def zIX (fu:Nat) (b:Int) (f:Forest) (c d g:Int) (h:List (Node×Bool)) (i:List Note):Option ((Option (Bs×Int))×(List (Node×Bool))×(List Note)):=bnd (zN5 fu f c d) fun j=>bnd (zDs fu c b h i) fun e=>bnd (zEl fu d g j b e.1 e.2) fun a=>some (none,a.1,a.2)
theorem zOy {fu:Nat} {a:Int} {b:Forest} {c d e:Int} {f:List (Node×Bool)} {g:List Note}:FF (zIX fu a b c d e f g) 207 [.loc 900000 0,.loc 900001 0,.loc 900002 0,.loc 900003 0,.loc 900004 0] [(900000,.box 131 [.own 900005,Z a,.own 900006]),(900001,.box 24 (zAD b)),(900002,.box 3 [Z c]),(900003,.box 3 [Z d]),(900004,.box 3 [Z e]),(900005,.tre 77 10 6 3 (f.map nB)),(900006,.arr 192 9 (g.map zBG))] [900000,900001,900002,900003,900004,900005] (fun r=>.v (zRR 181 179 r.1)) fun r=>[(900000,.box 131 [.own 900005,Z a,.own 900006]),(900001,.box 24 (zAD b)),(900002,.box 3 [Z c]),(900003,.box 3 [Z d]),(900004,.box 3 [Z e]),(900005,.tre 77 10 6 3 (r.2.1.map nB)),(900006,.arr 192 9 (r.2.2.map zBG))]:=by
 refine fcI Tryz.func207 U (A [58,93,41] (fun i _=>?_) zSA)
 refine A [57,61,43] (fun j _=>?_) zGQ [(900000,900000),(900001,900005),(900002,900006)] [900006]
 refine A [0,76,43] (fun h _=>?_) zLf [(900000,900000),(900001,900005),(900002,900006)] [900006]
 exact A [0,59]
theorem zQu {fu:Nat} {g:Forest} {a:Option (Bs×Int)} {b:Forest} {c d e:Int}:FF (zDO fu (fun (k:Int) (l:(List (Node×Bool))) (m:(List Note))=>zIX fu k b c d e l m) g a) 46 [.agg (zAD g),.v (zRR 181 179 a),.fn (.func 207) [] [.loc 900000 0,.loc 900001 0,.loc 900002 0,.loc 900003 0]] [(900000,.box 24 (zAD b)),(900001,.box 3 [Z c]),(900002,.box 3 [Z d]),(900003,.box 3 [Z e])] [900000,900001,900002,900003] (fun r=>.tup [.agg (zAD r.1),.own 2101102,Z r.2.2]) fun r=>[(900000,.box 24 (zAD b)),(900001,.box 3 [Z c]),(900002,.box 3 [Z d]),(900003,.box 3 [Z e]),(2101102,.arr 192 9 (r.2.1.map zBG))]:=by
 refine fcI Tryz.func46 U (A [9,30,3,31,6,2,0,80,43] (fun i _=>?_) zHc [(12,2101100),(2070,2101101),(31202,2101102)] [2101100,2101101,2101102])
 refine A [57,6,80] ?_
 refine zFL Tryz.underlying122 U U U U U U (ns (zAE U ?_ ?_))
 ·refine A [14,2,43] (fun h _=>?_) zOy [(900000,2101100),(900001,900000),(900002,900001),(900003,900002),(900004,900003),(900005,2101101),(900006,2101102)] [2101102]
  refine A [57,6,80] ?_
  refine zFL Tryz.underlying122 U U U U U U (ns (zAE U ?_ ?_))
  ·refine A [6,81,202] ?_
   exact vT [40] [42] [] U U (pk (zLk fu h.1) U U fun j _=>pzq U) (fun _=>U) (fun _=>U) fun j _=>A [84,90,8]
  ·refine A [78,60,66,79] ?_
   exact zDn 2101101 (nB) Prod.fst zAX h.2.1 (fun _=>U) (fun _=>U) U U U rN
 ·refine A [68,80] ?_
  refine zFL Tryz.underlying122 U U U U U U (ns (zAE U ?_ ?_))
  ·refine A [6,81,202] ?_
   exact vT [40] [42] [] U U (pk (zLk fu a) U U fun f _=>pzq U) (fun _=>U) (fun _=>U) fun f _=>A [84,90,8]
  ·refine A [78,60,66,79] ?_
   exact zDn 2101101 (nB) Prod.fst zAX i.2.2.1 (fun _=>U) (fun _=>U) U U U rN
def zNO (fu:Nat) (b:Forest) (d e a:Int):Option (Forest×(List Note)×Int):=bnd (zPh fu b d e a) fun f=>bnd (zBR fu [115,119,97,112] f) fun g=>bnd (zDO fu (fun (h:Int) (i:(List (Node×Bool))) (j:(List Note))=>zIX fu h b a d e i j) b g) fun c=>some (c.1,c.2.1,c.2.2)
theorem zQq {fu:Nat} {b:Forest} {c d a:Int}:DD (zNO fu b c d a) 139 [.agg (zAD b),Z c,Z d,Z a] fun r=>.tup [.agg (zAD r.1),.sl 9 false (r.2.1.map zBG),Z r.2.2]:=by
 refine fcI Tryz.func139 U (A [9,30,4,30,5,30,6,30,7,31,8,2,0,6,52,5,5,4,5,6,7,8,8,7,6,5,4,53,15,0,0,0,0,0,30,62,0,255,511,511,511,4095,8191,16383,205,54,4,1,24,26,28,30,32] (fun f _=>?_) zTO)
 refine A [54,1,1,32,34] (fun g _=>?_) zB7
 exact vq 1 U (by kernel_rfl) (vT [9,11,13,15,22,34,36] [38,4381] [2190] U U (tqG (rn:=[(900000,4),(900001,7),(900002,5),(900003,6),(2101102,2190)]) (ks:=[2190]) ⟨zQu⟩ U U U U U U U U fun e _=>zGN 2190 U U U (pzq U)) (fun _=>U) (fun _=>U) fun e _=>A [203,50,3,1,16,17,40,17,202,79,8])
def zGc (fu:Nat) (b:Forest) (c:Int):Option (Option (Bs×Int)):=bnd (zH7 fu b c) fun a=>cnd a.isNone (bnd (idx b.Nodes c) fun e=>cnd (e.Kind != 1) (bnd (zBR fu [101,108,101,109] 5) fun d=>some d) (some a)) (some a)
theorem zL5 {fu:Nat} {a:Forest} {b:Int}:DD (zGc fu a b) 55 [.agg (zAD a),Z b] fun r=>.v (zRR 181 179 r):=by
 refine fcI Tryz.func55 U (A [73,57,99] (fun c _=>?_) zN6)
 refine A [57,6,80] ?_
 refine zFL Tryz.underlying122 U U U U U U (A [1,27,11,6,108,11,24,67,62,8,3,36] fun e _=>?_)
 refine A [104,0,10,3,67,62,8,9,41] (fun d _=>?_) zB7
 exact A [57,8]
def zKQ (fu:Nat) (l1:List Attr) (d a:Bs):Option ((List Attr)×Int):=bnd (zGU fu l1 d) fun b=>bnd (zAl fu l1) fun c=>cnd (b.2.2 != 0) (some (c,b.2.2)) (cnd (decide ((a.length:Int)>200)) (some (c,3)) (cnd (decide (b.2.1>=0)) (bnd (idx c b.2.1) fun e=>some ((c.set (b.2.1).toNat (⟨e.Name,a⟩:Attr)),0)) (cnd ((l1.length:Int)==40) (some (c,3)) (bnd (zDT 32 (c.length+([(⟨b.1,a⟩:Attr)]:List Attr).length)) fun _=>some ((c++[(⟨b.1,a⟩:Attr)]),0)))))
theorem zQk {fu:Nat} {l1:List Attr} {c a:Bs}:DD (zKQ fu l1 c a) 57 [.sl 2 false (l1.map zDY),O c,O a] fun r=>.tup [.sl 2 false (r.1.map zDY),Z r.2]:=by
 refine fcI Tryz.func57 U (A [62,99] (fun d _=>?_) zJl)
 refine A [107,0,80,43] (fun e _=>?_) zBk [(5,2200)] [2200]
 refine A [57,6,13,93,0,5,5,76,0,34,2200,8,76,0,5,5,93,0,34,2200,8,93,0] ?_
 refine zAE U ?_ ?_
 ·refine A [93,38] fun f b=>?_
  exact pq 1 U (zCr (T:=tab) zDY e f (⟨f.Name,a⟩:Attr) (zAu b) U U U U U U U U U U U U U (A [0,93,0,34,2200,8]))
 ·refine A [80,35,2,0,5,5,93,0,34,2200,8,4,69,93,20] ?_
  exact pl ([(⟨d.1,a⟩:Attr)].map zDY) 49 U U U U U U (pa zDY e ([(⟨d.1,a⟩:Attr)]:List Attr) U U U U U U U U (zRE _) U U U (A [2,0,34,2200,8]))
def zDJ (fu:Nat) (c:Int) (i:Bs) (g:List Attr) (e:List (Node×Bool)) (f:List Note):Option ((List (Node×Bool))×(List Note)):=bnd (zEr fu i) fun h=>bnd (idx e c) fun j=>bnd (zFs fu j.1.Attrs i) fun d=>bnd (zFs fu g i) fun a=>bnd (idx e c) fun b=>cnd d.2 (bnd (zDT 88 (f.length+([(⟨4,c,0,0,h,d.2,a.2,d.1,a.1⟩:Note)]:List Note).length)) fun _=>some ((e.set (c).toNat (({b.1 with Attrs:=g}:Node),b.2)),(f++[(⟨4,c,0,0,h,d.2,a.2,d.1,a.1⟩:Note)]))) (cnd a.2 (bnd (zDT 88 (f.length+([(⟨4,c,0,0,h,d.2,a.2,d.1,a.1⟩:Note)]:List Note).length)) fun _=>some ((e.set (c).toNat (({b.1 with Attrs:=g}:Node),b.2)),(f++[(⟨4,c,0,0,h,d.2,a.2,d.1,a.1⟩:Note)]))) (some ((e.set (c).toNat (({b.1 with Attrs:=g}:Node),b.2)),f)))
theorem zGd {fu:Nat} {d:Int} {n:Bs} {l:List Attr} {m:Int} {g:List (Node×Bool)} {h:List Note}:FF (zDJ fu d n l g h) 58 [.loc 900000 0,Z d,O n,.sl 2 false (l.map zDY)] [(900000,.box 131 [.own 900001,Z m,.own 900002]),(900001,.tre 77 10 6 3 (g.map nB)),(900002,.arr 192 9 (h.map zBG))] [900000,900001] (fun _=>.tup []) fun r=>[(900000,.box 131 [.own 900001,Z m,.own 900002]),(900001,.tre 77 10 6 3 (r.1.map nB)),(900002,.arr 192 9 (r.2.map zBG))]:=by
 refine fcI Tryz.func58 U (A [99] (fun i _=>?_) zG2)
 refine A [20,31,8,12,0,9,106] ?_
 refine zBT (T:=tab) g (by simp) U U U U U U U U fun o k=>pq 1 U (zEd (T:=tab) (zHN (f:=nB) (zAu k)) U U U U U U U U (A [1,41] (fun b _=>?_) zHW))
 refine A [104,12,1,12,0,99] (fun a _=>?_) zHW
 refine A [104,12,1,12,0,9,107] ?_
 refine zBT (T:=tab) g (by simp) U U U U U U U U fun c e=>pq 1 U (zJ5 (T:=tab) (nB) g c ((({c.1 with Attrs:=l}:Node),c.2):Node×Bool) (zAu e) U U U U U U U U U U U U U U U (A [0,93] ?_))
 refine zAT (j:=48) U ?_ ?_
 ·refine A [3,65,52,2,4,0,8,8,900000,900001,900002,53,11,0,0,2,6,14,0,32,126,255,511,1023,206] ?_
  refine vS [114] [116,117] [58] U U (pl ([(⟨4,d,0,0,i,b.2,a.2,b.1,a.1⟩:Note)].map zBG) 58 U U U U U U (pyq U)) U U (vU [112,116,117,1800001,1800005] [118,112,1800001,1800005] [900002] U U (pa zBG h ([(⟨4,d,0,0,i,b.2,a.2,b.1,a.1⟩:Note)]:List Note) U U U U U U U U (zKg _) U U U (pyq U)) U U fun _ _=>A [202,50,4,1,118,122,1800001,1800005,1800001,19] ?_)
  exact zKM (T:=tab) U U U ⟨U,U⟩ ⟨U,U,U,trivial⟩ U
 ·refine A [3,0] ?_
  refine zAE U ?_ ?_
  ·refine A [52,2,4,0,8,8,900000,900001,900002,53,11,0,0,2,6,14,0,32,126,255,511,1023,206] ?_
   refine vS [114] [116,117] [58] U U (pl ([(⟨4,d,0,0,i,b.2,a.2,b.1,a.1⟩:Note)].map zBG) 58 U U U U U U (pyq U)) U U (vU [112,116,117,1800001,1800005] [118,112,1800001,1800005] [900002] U U (pa zBG h ([(⟨4,d,0,0,i,b.2,a.2,b.1,a.1⟩:Note)]:List Note) U U U U U U U U (zKg _) U U U (pyq U)) U U fun _ _=>A [202,50,4,1,118,122,1800001,1800005,1800001,19] ?_)
   exact zKM (T:=tab) U U U ⟨U,U⟩ ⟨U,U,U,trivial⟩ U
  ·exact zW9 (zKM (T:=tab) U U U ⟨U,U⟩ ⟨U,U,U,trivial⟩ U)
def zJt (fu:Nat) (d:Int) (e g:Bs) (b:List (Node×Bool)) (f:List Note):Option ((Option (Bs×Int))×(List (Node×Bool))×(List Note)):=bnd (idx b d) fun i=>bnd (zKQ fu i.1.Attrs e g) fun c=>cnd (c.2 != 0) (bnd (zBR fu [115,101,116] c.2) fun h=>some (h,b,f)) (bnd (zDJ fu d e c.1 b f) fun a=>some (none,a.1,a.2))
theorem zTJ {fu:Nat} {g b:Int} {c d:Bs} {e:List (Node×Bool)} {h:List Note}:FF (zJt fu b c d e h) 56 [.loc 900000 0,.loc 900001 0,.loc 900002 0,.loc 900003 0] [(900000,.box 131 [.own 900004,Z g,.own 900005]),(900001,.box 3 [Z b]),(900002,.box 9 [O c]),(900003,.box 9 [O d]),(900004,.tre 77 10 6 3 (e.map nB)),(900005,.arr 192 9 (h.map zBG))] [900000,900001,900002,900003,900004] (fun r=>.v (zRR 181 179 r.1)) fun r=>[(900000,.box 131 [.own 900004,Z g,.own 900005]),(900001,.box 3 [Z b]),(900002,.box 9 [O c]),(900003,.box 9 [O d]),(900004,.tre 77 10 6 3 (r.2.1.map nB)),(900005,.arr 192 9 (r.2.2.map zBG))]:=by
 refine fcI Tryz.func56 U (A [75,52,4,6,0,1,2,3,900000,900001,900002,900003,900004,900005,53,17,0,1,3,7,15,0,63,127,255,0,0,2047,4095,8191,8191,16383,65535,206] ?_)
 refine vT [26,28,1800009] [30] [] U U (zBT (T:=tab) e (by simp) U U U U U U U U fun j a=>pzq U) (fun _=>U) (fun _=>U) fun j a=>vq 1 U (by kernel_rfl) (vS [32,1800009] [34] [] U U (zEd (T:=tab) (zHN (f:=nB) (zAu a)) U U U U U U U U (pyq U)) U U (A [202,54,3,1,34,36,38,40] (fun k _=>?_) zQk))
 refine A [205,79,6,62] ?_
 refine zAE U ?_ ?_
 ·refine A [80,41] (fun l _=>?_) zB7
  exact A [57,8]
 ·refine A [67,76,43] (fun i _=>?_) zGd [(900000,900000),(900001,900004),(900002,900005)] [900005]
  exact A [0,59]
def zBQ (fu:Nat) (g:(List (Node×Bool))->(List Note)->Option ((Option (Bs×Int))×(List (Node×Bool))×(List Note))) (d:Forest) (a:Option (Bs×Int)):Option (Forest×(List Note)×Int):=bnd (zKU fu d) fun b=>cnd a.isNone (bnd (g b.2.2.1 b.2.2.2) fun c=>cnd c.1.isSome (bnd (zcR fu c.1) fun e=>some (d,([]:List Note),e)) (some ((⟨(c.2.1.map Prod.fst),b.2.1⟩:Forest),c.2.2,0))) (cnd a.isSome (bnd (zcR fu a) fun f=>some (d,([]:List Note),f)) (some ((⟨(b.2.2.1.map Prod.fst),b.2.1⟩:Forest),b.2.2.2,0)))
theorem zQv {fu:Nat} {e:Forest} {a:Option (Bs×Int)} {b:Int} {c d:Bs}:FF (zBQ fu (fun (j:(List (Node×Bool))) (k:(List Note))=>zJt fu b c d j k) e a) 46 [.agg (zAD e),.v (zRR 181 179 a),.fn (.func 56) [] [.loc 900000 0,.loc 900001 0,.loc 900002 0]] [(900000,.box 3 [Z b]),(900001,.box 9 [O c]),(900002,.box 9 [O d])] [900000,900001,900002] (fun r=>.tup [.agg (zAD r.1),.own 2101102,Z r.2.2]) fun r=>[(900000,.box 3 [Z b]),(900001,.box 9 [O c]),(900002,.box 9 [O d]),(2101102,.arr 192 9 (r.2.1.map zBG))]:=by
 refine fcI Tryz.func46 U (A [9,30,3,31,6,2,0,80,43] (fun g _=>?_) zHc [(12,2101100),(2070,2101101),(31202,2101102)] [2101100,2101101,2101102])
 refine A [57,6,80] ?_
 refine zFL Tryz.underlying122 U U U U U U (ns (zAE U ?_ ?_))
 ·refine A [14,2,43] (fun f _=>?_) zTJ [(900000,2101100),(900001,900000),(900002,900001),(900003,900002),(900004,2101101),(900005,2101102)] [2101102]
  refine A [57,6,80] ?_
  refine zFL Tryz.underlying122 U U U U U U (ns (zAE U ?_ ?_))
  ·refine A [6,91,202] ?_
   exact vT [40] [42] [] U U (pk (zLk fu f.1) U U fun h _=>pzq U) (fun _=>U) (fun _=>U) fun h _=>A [84,90,8]
  ·refine A [87,60,66,79] ?_
   exact zDn 2101101 (nB) Prod.fst zAX f.2.1 (fun _=>U) (fun _=>U) U U U rN
 ·refine A [68,80] ?_
  refine zFL Tryz.underlying122 U U U U U U (ns (zAE U ?_ ?_))
  ·refine A [6,91,202] ?_
   exact vT [40] [42] [] U U (pk (zLk fu a) U U fun i _=>pzq U) (fun _=>U) (fun _=>U) fun i _=>A [84,90,8]
  ·refine A [87,60,66,79] ?_
   exact zDn 2101101 (nB) Prod.fst zAX g.2.2.1 (fun _=>U) (fun _=>U) U U U rN
def zKT (fu:Nat) (c:Forest) (d:Int) (f a:Bs):Option (Forest×(List Note)×Int):=bnd (zGc fu c d) fun e=>bnd (zBQ fu (fun (g:(List (Node×Bool))) (h:(List Note))=>zJt fu d f a g h) c e) fun b=>some (b.1,b.2.1,b.2.2)
theorem zQr {fu:Nat} {b:Forest} {c:Int} {d a:Bs}:DD (zKT fu b c d a) 21 [.agg (zAD b),Z c,O d,O a] fun r=>.tup [.agg (zAD r.1),.sl 9 false (r.2.1.map zBG),Z r.2.2]:=by
 refine fcI Tryz.func21 U (A [9,30,4,30,5,30,6,30,7,31,8,2,0,6,52,5,5,4,5,6,7,8,8,7,6,5,4,53,12,0,0,0,6,0,31,63,63,63,511,1023,2047,203,54,2,1,24,26,28] (fun f _=>?_) zL5)
 exact vq 1 U (by kernel_rfl) (vT [11,13,15,22,28,30] [32,4321] [2160] U U (tqG (rn:=[(900000,5),(900001,6),(900002,7),(2101102,2160)]) (ks:=[2160]) ⟨zQv⟩ U U U U U U U U fun e _=>zGN 2160 U U U (pzq U)) (fun _=>U) (fun _=>U) fun e _=>A [203,50,3,1,16,17,34,17,202,79,8])
def zG8 (_fu:Nat) (b j2:Int) (a:List Attr):Option (List Attr):=bnd (cut3 a.length b j2 (a.length:Int)) fun _=>cnd (b==j2) (some a) (bnd (zPX a.length 0 b) fun _=>bnd (zPX a.length j2 (a.length:Int)) fun _=>bnd (delB a.length (b).toNat (j2).toNat ((a.length:Int)).toNat) fun _=>bnd (zPX (zQG a (b).toNat (j2).toNat).length ((((b).toNat+(((a.length:Int)).toNat - (j2).toNat)):Nat):Int) (a.length:Int)) fun _=>bnd (zfa (zQG a (b).toNat (j2).toNat).length (((((b).toNat+(((a.length:Int)).toNat - (j2).toNat)):Nat):Int)).toNat ((a.length:Int)).toNat) fun _=>bnd (zb8 (zRI (zQG a (b).toNat (j2).toNat) (((((b).toNat+(((a.length:Int)).toNat - (j2).toNat)):Nat):Int)).toNat ((⟨[],[]⟩:Attr):Attr)).length ((b).toNat+(((a.length:Int)).toNat - (j2).toNat))) fun _=>some ((zRI (zQG a (b).toNat (j2).toNat) (((((b).toNat+(((a.length:Int)).toNat - (j2).toNat)):Nat):Int)).toNat ((⟨[],[]⟩:Attr):Attr)).take ((b).toNat+(((a.length:Int)).toNat - (j2).toNat))))
theorem zKZ {fu:Nat} {b j2:Int} {a:List Attr}:FF (zG8 fu b j2 a) 261 [.own 900000,Z b,Z j2] [(900000,.arr 198 2 (a.map zDY))] [] (fun _=>.own 900000) fun r=>[(900000,.arr 198 2 (r.map zDY))]:=by
 refine fcI Tryz.func261 U (A [58,76,39] ?_)
 refine zbe (T:=tab) (L:=a.length) U U U U U U U U (by simp) U U (A [0,6,93,0,5,2,62,8,67,80,39,57,6,52,4,1,0,1,2,7,900000,53,8,0,0,3,0,0,24,63,127,202] ?_)
 refine vU [40,42,1800001] [44] [] U U (zNw (T:=tab) (L:=a.length) (.inl U) U U U U (by simp) U U U U U (pyq U)) U U fun _ _=>vq 2 U (by kernel_rfl) (vU [46,48,1800001] [50] [] U U (zNw (T:=tab) (L:=a.length) (.inl U) U U U U (by simp) U U U U U (pyq U)) U U fun _ _=>vU [44,50,1800001] [52,1800001] [] U U (zPx (T:=tab) zDY a U U U U U U U U U (zRE _) U U U (pyq U)) U U fun _ _=>A [201,79,61] ?_)
 refine zVb (T:=tab) U U U U U U U U U (pq 1 U (zNw (T:=tab) (L:=(zQG a (b).toNat (j2).toNat).length) (.inr ⟨_,U⟩) U U U U (by simp) U U U U U (zNs (T:=tab) zDY (zQG a (b).toNat (j2).toNat) ((⟨[],[]⟩:Attr):Attr) U U U U U U U U U U U U U U (A [0,62] ?_))))
 exact zVf 6 zDY (zRI (zQG a (b).toNat (j2).toNat) (((((b).toNat+(((a.length:Int)).toNat - (j2).toNat)):Nat):Int)).toNat ((⟨[],[]⟩:Attr):Attr)) U U U U U rN
def zK2 (fu:Nat) (l1:List Attr) (d:Bs):Option ((List Attr)×Bool):=bnd (zGU fu l1 d) fun a=>bnd (zAl fu l1) fun b=>cnd (decide (a.2.1<0)) (some (b,false)) (bnd (rng .i64 (a.2.1+1)) fun c=>bnd (zG8 fu a.2.1 c b) fun e=>some (e,true))
theorem zNL {fu:Nat} {l1:List Attr} {a:Bs}:DD (zK2 fu l1 a) 210 [.sl 2 false (l1.map zDY),O a] fun r=>.tup [.sl 2 false (r.1.map zDY),Y r.2]:=by
 refine fcI Tryz.func210 U (A [62,99] (fun c _=>?_) zJl)
 refine A [107,0,80,43] (fun d _=>?_) zBk [(5,2180)] [2180]
 refine A [57,6,62,5,5,93,0,34,2180,8,67,93,16] fun b _=>?_
 refine A [43] (fun e _=>?_) zKZ [(900000,2180)] [2180]
 exact A [2,0,34,2180,8]
def zKB (fu:Nat) (b:Bs) (d:Int) (c:List (Node×Bool)) (e:List Note):Option ((Option (Bs×Int))×(List (Node×Bool))×(List Note)):=bnd (zFw fu b) fun f=>cnd (f.2 != 0) (bnd (zBR fu [117,110,115,101,116] f.2) fun g=>some (g,c,e)) (bnd (idx c d) fun i=>bnd (zK2 fu i.1.Attrs b) fun h=>bnd (zDJ fu d b h.1 c e) fun a=>some (none,a.1,a.2))
theorem zQs {fu:Nat} {e:Int} {b:Bs} {c:Int} {d:List (Node×Bool)} {g:List Note}:FF (zKB fu b c d g) 209 [.loc 900000 0,.loc 900001 0,.loc 900002 0] [(900000,.box 131 [.own 900003,Z e,.own 900004]),(900001,.box 9 [O b]),(900002,.box 3 [Z c]),(900003,.tre 77 10 6 3 (d.map nB)),(900004,.arr 192 9 (g.map zBG))] [900000,900001,900002,900003] (fun r=>.v (zRR 181 179 r.1)) fun r=>[(900000,.box 131 [.own 900003,Z e,.own 900004]),(900001,.box 9 [O b]),(900002,.box 3 [Z c]),(900003,.tre 77 10 6 3 (r.2.1.map nB)),(900004,.arr 192 9 (r.2.2.map zBG))]:=by
 refine fcI Tryz.func209 U (A [75,80,41] (fun j _=>?_) zHd)
 refine A [105,0,62] ?_
 refine zAE U ?_ ?_
 ·refine A [80,41] (fun k _=>?_) zB7
  exact A [57,8]
 ·refine A [68,52,3,5,0,1,2,900000,900001,900002,900003,900004,53,16,0,1,3,7,15,0,63,127,255,0,1023,2047,4095,4095,8191,32767,206] ?_
  refine vT [46,48,1800007] [50] [] U U (zBT (T:=tab) d (by simp) U U U U U U U U fun i a=>pzq U) (fun _=>U) (fun _=>U) fun i a=>vq 1 U (by kernel_rfl) (vS [52,1800007] [54] [] U U (zEd (T:=tab) (zHN (f:=nB) (zAu a)) U U U U U U U U (pyq U)) U U (A [201,54,2,1,54,56,58] (fun l _=>?_) zNL))
  refine A [205,79,76,43] (fun h _=>?_) zGd [(900000,900000),(900001,900003),(900002,900004)] [900004]
  exact A [0,59]
theorem zQw {fu:Nat} {d:Forest} {a:Option (Bs×Int)} {b:Bs} {c:Int}:FF (zBQ fu (fun (i:(List (Node×Bool))) (j:(List Note))=>zKB fu b c i j) d a) 46 [.agg (zAD d),.v (zRR 181 179 a),.fn (.func 209) [] [.loc 900000 0,.loc 900001 0]] [(900000,.box 9 [O b]),(900001,.box 3 [Z c])] [900000,900001] (fun r=>.tup [.agg (zAD r.1),.own 2101102,Z r.2.2]) fun r=>[(900000,.box 9 [O b]),(900001,.box 3 [Z c]),(2101102,.arr 192 9 (r.2.1.map zBG))]:=by
 refine fcI Tryz.func46 U (A [9,30,3,31,6,2,0,80,43] (fun f _=>?_) zHc [(12,2101100),(2070,2101101),(31202,2101102)] [2101100,2101101,2101102])
 refine A [57,6,80] ?_
 refine zFL Tryz.underlying122 U U U U U U (ns (zAE U ?_ ?_))
 ·refine A [14,2,43] (fun e _=>?_) zQs [(900000,2101100),(900001,900000),(900002,900001),(900003,2101101),(900004,2101102)] [2101102]
  refine A [57,6,80] ?_
  refine zFL Tryz.underlying122 U U U U U U (ns (zAE U ?_ ?_))
  ·refine A [6,52,3,4,1,3,6,6,3,900000,900001,53,6,0,0,2,7,15,31,202] ?_
   exact vT [40] [42] [] U U (pk (zLk fu e.1) U U fun g _=>pzq U) (fun _=>U) (fun _=>U) fun g _=>A [84,90,8]
  ·refine A [68,52,2,6,6,9,2101100,2101101,2101102,6,900000,900001,60,66,79] ?_
   exact zDn 2101101 (nB) Prod.fst zAX e.2.1 (fun _=>U) (fun _=>U) U U U rN
 ·refine A [68,80] ?_
  refine zFL Tryz.underlying122 U U U U U U (ns (zAE U ?_ ?_))
  ·refine A [6,52,3,4,1,3,6,6,3,900000,900001,53,6,0,0,2,7,15,31,202] ?_
   exact vT [40] [42] [] U U (pk (zLk fu a) U U fun h _=>pzq U) (fun _=>U) (fun _=>U) fun h _=>A [84,90,8]
  ·refine A [68,52,2,6,6,9,2101100,2101101,2101102,6,900000,900001,60,66,79] ?_
   exact zDn 2101101 (nB) Prod.fst zAX f.2.2.1 (fun _=>U) (fun _=>U) U U U rN
def zPc (fu:Nat) (b:Forest) (c:Int) (e:Bs):Option (Forest×(List Note)×Int):=bnd (zGc fu b c) fun d=>bnd (zBQ fu (fun (f:(List (Node×Bool))) (g:(List Note))=>zKB fu e c f g) b d) fun a=>some (a.1,a.2.1,a.2.2)
theorem zTK {fu:Nat} {a:Forest} {b:Int} {c:Bs}:DD (zPc fu a b c) 140 [.agg (zAD a),Z b,O c] fun r=>.tup [.agg (zAD r.1),.sl 9 false (r.2.1.map zBG),Z r.2.2]:=by
 refine fcI Tryz.func140 U (A [9,30,3,30,4,30,5,31,6,2,0,6,52,4,4,3,4,5,6,6,5,4,3,53,12,0,0,0,6,0,31,63,63,63,511,1023,2047,203,54,2,1,20,22,24] (fun e _=>?_) zL5)
 exact vq 1 U (by kernel_rfl) (vT [9,11,18,24,26] [28,4281] [2140] U U (tqG (rn:=[(900000,5),(900001,4),(2101102,2140)]) (ks:=[2140]) ⟨zQw⟩ U U U U U U U U fun d _=>zGN 2140 U U U (pzq U)) (fun _=>U) (fun _=>U) fun d _=>A [203,50,3,1,12,13,30,13,202,79,8])
def zHu (fu:Nat) (l1:List Attr) (d:Bs) (b:Bs×Int×Int) (a:Bool):Option ((List Attr)×Bool×Int):=cnd (b.2.2 != 0) (bnd (zAl fu l1) fun e=>some (e,false,b.2.2)) (cnd (a==(decide (b.2.1>=0))) (bnd (zAl fu l1) fun f=>some (f,(decide (b.2.1>=0)),0)) (cnd a (bnd (zKQ fu l1 d []) fun c=>some (c.1,(c.2==0),c.2)) (bnd (zK2 fu l1 d) fun g=>some (g.1,false,0))))
def zN1 (fu:Nat) (l1:List Attr) (b:Bs) (a:Int):Option ((List Attr)×Bool×Int):=bnd (zGU fu l1 b) fun c=>cnd (decide (a>0)) ((zHu fu l1 b c) true) (cnd (a==0) ((zHu fu l1 b c) (!(decide (c.2.1>=0)))) ((zHu fu l1 b c) false))
theorem zR7 {fu:Nat} {l1:List Attr} {d:Bs} {b:Int}:DD (zN1 fu l1 d b) 212 [.sl 2 false (l1.map zDY),O d,Z b] fun r=>.tup [.sl 2 false (r.1.map zDY),Y r.2.1,Z r.2.2]:=by
 refine fcI Tryz.func212 U (A [93,0,99] (fun e _=>?_) zJl)
 refine A [107,0,93,0,9] ?_
 refine zMp (zHu fu l1 d e) (fun (a:Bool)=>[(0,.sl 2 false (l1.map zDY)),(1,O d),(11,Z e.2.2),(12,Y (decide (e.2.1>=0))),(13,Y a)]) (fun (a:Bool)=>[]) ?_ fun c=>?_
 ·rintro a
  refine A [7,6,13,93,0] ?_
  refine zAE U ?_ ?_
  ·refine A [80,43] (fun f _=>?_) zBk [(5,2410)] [2410]
   exact A [104,0,34,2410,8]
  ·refine A [76,0] ?_
   refine zAE U ?_ ?_
   ·refine A [80,43] (fun g _=>?_) zBk [(5,2480)] [2480]
    exact A [104,0,34,2480,8]
   ·refine A [62] ?_
    refine zAE U ?_ ?_
    ·refine A [99] (fun h _=>?_) zQk
     exact A [105,0,9,107,74]
    ·refine A [4,69,99] (fun i _=>?_) zNL
     exact A [105,0,76,74]
 ·refine pq 3 U (zAT (j:=29) U ?_ ?_)
  ·exact A [108,11,45] (c true)
  ·refine pq 3 U (zAT (j:=32) U ?_ ?_)
   ·exact A [105,11,45] (c (!(decide (e.2.1>=0))))
   ·exact A [105,11,45] (c false)
def zJD (fu:Nat) (d:Int) (e:Bs) (h:Int) (b:List (Node×Bool)) (f:List Note):Option ((Option (Bs×Int))×(List (Node×Bool))×(List Note)):=bnd (idx b d) fun j=>bnd (zFs fu j.1.Attrs e) fun i=>bnd (idx b d) fun k=>bnd (zN1 fu k.1.Attrs e h) fun a=>cnd (a.2.2 != 0) (bnd (zBR fu [116,111,103,103,108,101] a.2.2) fun g=>some (g,b,f)) (cnd (!(i.2==a.2.1)) (bnd (zDJ fu d e a.1 b f) fun c=>some (none,c.1,c.2)) (some (none,b,f)))
theorem zP4 {fu:Nat} {h d:Int} {e:Bs} {g:Int} {c:List (Node×Bool)} {i:List Note}:FF (zJD fu d e g c i) 211 [.loc 900000 0,.loc 900001 0,.loc 900002 0,.loc 900003 0] [(900000,.box 131 [.own 900004,Z h,.own 900005]),(900001,.box 3 [Z d]),(900002,.box 9 [O e]),(900003,.box 3 [Z g]),(900004,.tre 77 10 6 3 (c.map nB)),(900005,.arr 192 9 (i.map zBG))] [900000,900001,900002,900003,900004] (fun r=>.v (zRR 181 179 r.1)) fun r=>[(900000,.box 131 [.own 900004,Z h,.own 900005]),(900001,.box 3 [Z d]),(900002,.box 9 [O e]),(900003,.box 3 [Z g]),(900004,.tre 77 10 6 3 (r.2.1.map nB)),(900005,.arr 192 9 (r.2.2.map zBG))]:=by
 refine fcI Tryz.func211 U (A [75,52,4,6,0,1,2,3,900000,900001,900002,900003,900004,900005,53,16,0,1,3,7,15,0,63,127,255,0,1023,2047,4095,4095,8191,32767,206] ?_)
 refine vT [32,34,1800009] [36] [] U U (zBT (T:=tab) c (by simp) U U U U U U U U fun m a=>pzq U) (fun _=>U) (fun _=>U) fun m a=>vq 1 U (by kernel_rfl) (vS [38,1800009] [40] [] U U (zEd (T:=tab) (zHN (f:=nB) (zAu a)) U U U U U U U U (pyq U)) U U (A [201,54,2,1,40,42,44] (fun o _=>?_) zHW))
 refine A [205,79,6,52,5,6,0,1,2,3,7,900000,900001,900002,900003,900004,900005,53,19,0,1,3,7,15,0,63,127,255,0,0,2047,4095,8191,8191,8191,16383,98303,262143,206] ?_
 refine vT [60,62,1800009] [64] [] U U (zBT (T:=tab) c (by simp) U U U U U U U U fun n b=>pzq U) (fun _=>U) (fun _=>U) fun n b=>vq 1 U (by kernel_rfl) (vS [66,1800009] [68] [] U U (zEd (T:=tab) (zHN (f:=nB) (zAu b)) U U U U U U U U (pyq U)) U U (A [202,54,3,1,68,70,72,74] (fun j _=>?_) zR7))
 refine A [207,79,6,62] ?_
 refine zAE U ?_ ?_
 ·refine A [80,41] (fun k _=>?_) zB7
  exact A [57,8]
 ·refine A [68,93,0,10,2,67,59,14,104,43] (fun l _=>?_) zGd [(900000,900000),(900001,900004),(900002,900005)] [900005]
  exact A [0,59]
theorem zQx {fu:Nat} {e:Forest} {a:Option (Bs×Int)} {b:Int} {c:Bs} {d:Int}:FF (zBQ fu (fun (j:(List (Node×Bool))) (k:(List Note))=>zJD fu b c d j k) e a) 46 [.agg (zAD e),.v (zRR 181 179 a),.fn (.func 211) [] [.loc 900000 0,.loc 900001 0,.loc 900002 0]] [(900000,.box 3 [Z b]),(900001,.box 9 [O c]),(900002,.box 3 [Z d])] [900000,900001,900002] (fun r=>.tup [.agg (zAD r.1),.own 2101102,Z r.2.2]) fun r=>[(900000,.box 3 [Z b]),(900001,.box 9 [O c]),(900002,.box 3 [Z d]),(2101102,.arr 192 9 (r.2.1.map zBG))]:=by
 refine fcI Tryz.func46 U (A [9,30,3,31,6,2,0,80,43] (fun g _=>?_) zHc [(12,2101100),(2070,2101101),(31202,2101102)] [2101100,2101101,2101102])
 refine A [57,6,80] ?_
 refine zFL Tryz.underlying122 U U U U U U (ns (zAE U ?_ ?_))
 ·refine A [14,2,43] (fun f _=>?_) zP4 [(900000,2101100),(900001,900000),(900002,900001),(900003,900002),(900004,2101101),(900005,2101102)] [2101102]
  refine A [57,6,80] ?_
  refine zFL Tryz.underlying122 U U U U U U (ns (zAE U ?_ ?_))
  ·refine A [6,91,202] ?_
   exact vT [40] [42] [] U U (pk (zLk fu f.1) U U fun h _=>pzq U) (fun _=>U) (fun _=>U) fun h _=>A [84,90,8]
  ·refine A [87,60,66,79] ?_
   exact zDn 2101101 (nB) Prod.fst zAX f.2.1 (fun _=>U) (fun _=>U) U U U rN
 ·refine A [68,80] ?_
  refine zFL Tryz.underlying122 U U U U U U (ns (zAE U ?_ ?_))
  ·refine A [6,91,202] ?_
   exact vT [40] [42] [] U U (pk (zLk fu a) U U fun i _=>pzq U) (fun _=>U) (fun _=>U) fun i _=>A [84,90,8]
  ·refine A [87,60,66,79] ?_
   exact zDn 2101101 (nB) Prod.fst zAX g.2.2.1 (fun _=>U) (fun _=>U) U U U rN
def zN4 (fu:Nat) (c:Forest) (d:Int) (f:Bs) (a:Int):Option (Forest×(List Note)×Int):=bnd (zGc fu c d) fun e=>bnd (zBQ fu (fun (g:(List (Node×Bool))) (h:(List Note))=>zJD fu d f a g h) c e) fun b=>some (b.1,b.2.1,b.2.2)
theorem zR9 {fu:Nat} {b:Forest} {c:Int} {d:Bs} {a:Int}:DD (zN4 fu b c d a) 141 [.agg (zAD b),Z c,O d,Z a] fun r=>.tup [.agg (zAD r.1),.sl 9 false (r.2.1.map zBG),Z r.2.2]:=by
 refine fcI Tryz.func141 U (A [9,30,4,30,5,30,6,30,7,31,8,2,0,6,52,5,5,4,5,6,7,8,8,7,6,5,4,53,12,0,0,0,6,0,31,63,63,63,511,1023,2047,203,54,2,1,24,26,28] (fun f _=>?_) zL5)
 exact vq 1 U (by kernel_rfl) (vT [11,13,15,22,28,30] [32,4321] [2160] U U (tqG (rn:=[(900000,5),(900001,6),(900002,7),(2101102,2160)]) (ks:=[2160]) ⟨zQx⟩ U U U U U U U U fun e _=>zGN 2160 U U U (pzq U)) (fun _=>U) (fun _=>U) fun e _=>A [203,50,3,1,16,17,34,17,202,79,8])
def zJy (d:Int) (f:Node) (c:Int) (b:List Int):Nat->Int×(List Node)×(List Note)->Option (Forest×(List Note)×Int)
 | 0,_=>none
 | k1+1,(t14,l15,l16)=>cnd (decide (t14<(b.length:Int))) (bnd (idx b t14) fun a=>bnd (idx l15 a) fun e=>bnd (idx (l15.set (a).toNat ({e with Doc:=d}:Node)) a) fun i=>cnd (i.Kind==1) (bnd (zDT 88 (l16.length+([(⟨3,a,f.Doc,d,[],false,false,[],[]⟩:Note)]:List Note).length)) fun _=>bnd (rng .i64 (t14+1)) fun g=>(zJy d f c b k1) (g,(l15.set (a).toNat ({e with Doc:=d}:Node)),(l16++[(⟨3,a,f.Doc,d,[],false,false,[],[]⟩:Note)]))) (bnd (rng .i64 (t14+1)) fun h=>(zJy d f c b k1) (h,(l15.set (a).toNat ({e with Doc:=d}:Node)),l16))) (some ((⟨l15,c⟩:Forest),l16,0))
def zMH (fu:Nat) (e c:Int) (d:Node) (f:(List Note)×(List Node)×Int):Option (Forest×(List Note)×Int):=match f with
 | (l9,c10,c11)=>cnd (d.Doc==c) (some ((⟨c10,c11⟩:Forest),l9,0)) (bnd (zAm fu c10) fun a=>bnd (zDu fu (⟨a,c11⟩:Forest) e) fun b=>(zJy c d c11 b) fu (0,a,l9))
def zMG (fu:Nat) (b:Forest) (c d:Int) (e:Node) (f:Unit):Option (Forest×(List Note)×Int):=bnd (zEK fu b c) fun a=>cnd (a.2.2 != 0) ((zMH fu c d e) ([],b.Nodes,b.Most)) ((zMH fu c d e) (a.2.1,a.1.Nodes,a.1.Most))
def zQ5 (fu:Nat) (a:Forest) (b c:Int):Option (Forest×(List Note)×Int):=bnd (zGr fu a [b]) fun f=>cnd (!f) (some (a,[],1)) (bnd (zO1 fu a c) fun g=>cnd (!g) (some (a,[],1)) (bnd (idx a.Nodes b) fun e=>bnd (idx a.Nodes b) fun d=>cnd (d.Kind==0) (cnd (d.Kind==0) (some (a,[],5)) ((zMG fu a b c e) ())) (cnd (d.Kind==4) (some (a,[],5)) ((zMG fu a b c e) ()))))
theorem zUh {fu:Nat} {k:Forest} {h d:Int}:DD (zQ5 fu k h d) 142 [.agg (zAD k),Z h,Z d] fun r=>.tup [.agg (zAD r.1),.sl 9 false (r.2.1.map zBG),Z r.2.2]:=by
 refine fcI Tryz.func142 U (A [9,30,3,31,6,2,0,6,61] ?_)
 refine pl ([h].map zAB) 17 U U U U U U (zNt (ps:=[.agg (zAD k),.own 17]) [(17,.sl 1 false ([h].map zAB))] [] (enc:=fun (y:Bool)=>Y y) (Sr:=fun (y:Bool)=>[]) (qs:=[.agg (zAD k),.sl 1 false ([h].map zAB)]) (Sc:=[]) (N0:=[]) (NR:=[]) zHB trivial (fun _=>U) U U U U U U U (fun _=>U) (fun _=>U) ⟨zX8 U,trivial⟩ U U (fun _=>U) (fun _=>by first | rfl | simp [zLh,zDM,zAB]) U U U ⟨⟨_,U,.rfl⟩,⟨_,U,.rfl⟩,trivial⟩ zfT U U fun y _=>pq 2 U (zAT (j:=20) U ?_ ?_))
 ·refine A [105,65,80,12,2,0] ?_
  exact zHL 7 (q:=.sl 9 false ([].map zBG)) U .nil rN
 ·refine A [2,41] (fun D _=>?_) zQ6
  refine A [2,0] ?_
  refine zAE U ?_ ?_
  ·refine A [80,12,2,0] ?_
   exact zHL 7 (q:=.sl 9 false ([].map zBG)) U .nil rN
  ·refine A [67,93,36] fun n _=>?_
   refine A [3,0,6,93,36] fun E _=>?_
   refine A [2,0] ?_
   refine jw (zMG fu k h d n) [1,2,3,6,9] [6,3] (fun _=>[]) (fun _=>[]) U U ?_ fun p=>?_
   ·rintro _
    refine A [7,61,43] (fun z _=>?_) zHx [(2120,2460)] [2460]
    refine A [104,31,10,12,2,0,6,62] ?_
    refine jw (zMH fu h d n) [1,2,6,9,10,11] [6] (fun _=>[]) (fun (x,o,e)=>[(2460,.arr 192 9 (x.map zBG)),(10,.box 24 [.sl 10 false (o.map zAX),Z e])]) U U ?_ fun s=>?_
    ·rintro ⟨x,o,e⟩
     refine A [7,6,93,0,5,7,61,12,2,0,34,2460,8,67,61,43] (fun l _=>?_) zBl [(5,2600)] [2600]
     refine A [1,12,0,6,61] ?_
     refine zNt (ps:=[.agg [.own 2600,Z e],Z h]) [(2600,.sl 10 false (l.map zAX))] [2640] (enc:=fun (f:(List Int))=>.own 2640) (Sr:=fun (f:(List Int))=>[(2640,.arr 3 1 (f.map zAB))]) (qs:=[.agg (zAD (⟨l,e⟩:Forest)),Z h]) (Sc:=[]) (N0:=[]) (NR:=[2640]) (fun f i=>zPr [(1035,2640)] [1035] (zJx _ i) U U U U U U) trivial (fun _=>U) U U U U U U U (fun _=>U) (fun _=>U) ⟨zX8 U,trivial⟩ U U (fun _=>U) (fun _=>by first | rfl | simp [zLh,zDM,zAB]) U U U ⟨⟨_,U,.rfl⟩,⟨_,U,.rfl⟩,trivial⟩ zWR U U fun f i=>A [33,2640,77,13] ?_
     refine lw (zJy d n e f) [2,6,9,10,11,64,65] [10,6] (fun (m,a,b)=>[(66,Z m)]) (fun (m,a,b)=>[(2600,.arr 77 10 (a.map zAX)),(2460,.arr 192 9 (b.map zBG))]) fu (0,l,x) U U ?_
     rintro C ⟨m,a,b⟩
     refine A [75,10,10,86,61,12,2,0,34,2600,34,2460,8,72,9,36] fun c _=>?_
     refine A [2,0,76,38] fun g t=>?_
     refine pq 1 U (zCr (T:=tab) zAX a g ({g with Doc:=d}:Node) (zAu t) U U U U U U U U U U U U U (A [0,93,38] fun B u=>?_))
     refine pq 1 U (zAr (T:=tab) zAX (a.set (c).toNat ({g with Doc:=d}:Node)) B (zAu u) U U U U U U U U (A [57] ?_))
     refine zAE U ?_ ?_
     ·refine A [14,104,20] ?_
      refine pl ([(⟨3,c,n.Doc,d,[],false,false,[],[]⟩:Note)].map zBG) 88 U U U U U U (pa zBG b ([(⟨3,c,n.Doc,d,[],false,false,[],[]⟩:Note)]:List Note) U U U U U U U U (zKg _) U U U (A [1,11,94] fun v _=>?_))
      exact A [89] (tx (v,(a.set (c).toNat ({g with Doc:=d}:Node)),(b++[(⟨3,c,n.Doc,d,[],false,false,[],[]⟩:Note)])))
     ·refine A [4,94] fun w _=>?_
      exact A [89] (tx (w,(a.set (c).toNat ({g with Doc:=d}:Node)),b))
    ·refine zAE U ?_ ?_
     ·refine A [14,1,12,1,11] ?_
      exact zZQ 2460 192 9 11 U U U U (ps (s ([],k.Nodes,k.Most)))
     ·exact A [4,45] (s (z.2.1,z.1.Nodes,z.1.Most))
   ·refine A [13,6,62] ?_
    refine zAE U ?_ ?_
    ·refine A [67] ?_
     refine zAE U ?_ ?_
     ·refine A [80,12,2,0] ?_
      exact zHL 7 (q:=.sl 9 false ([].map zBG)) U .nil rN
     ·exact A [4,15,45] (p ())
    ·refine A [14,2,0] ?_
     refine zAE U ?_ ?_
     ·refine A [80,12,2,0] ?_
      exact zHL 7 (q:=.sl 9 false ([].map zBG)) U .nil rN
     ·exact A [4,15,45] (p ())
def zLJ (fu:Nat) (c:Node):Nat->Int×(List Note)×(List Node)×Int->Option (Forest×(List Note)×Int)
 | 0,_=>none
 | k1+1,(t5,l6,c7,c8)=>cnd (decide (t5<(c.Kids.length:Int))) (bnd (idx c.Kids t5) fun d=>bnd (zEK fu (⟨c7,c8⟩:Forest) d) fun a=>bnd (zDT 88 (l6.length+a.2.1.length)) fun _=>bnd (rng .i64 (t5+1)) fun b=>(zLJ fu c k1) (b,(l6++a.2.1),a.1.Nodes,a.1.Most)) (some ((⟨c7,c8⟩:Forest),l6,0))
def zPf (fu:Nat) (a:Forest) (b:Int):Option (Forest×(List Note)×Int):=bnd (zGr fu a [b]) fun c=>cnd (!c) (some (a,[],1)) (bnd (idx a.Nodes b) fun d=>(zLJ fu d) fu (0,[],a.Nodes,a.Most))
theorem zTN {fu:Nat} {c:Forest} {g:Int}:DD (zPf fu c g) 143 [.agg (zAD c),Z g] fun r=>.tup [.agg (zAD r.1),.sl 9 false (r.2.1.map zBG),Z r.2.2]:=by
 refine fcI Tryz.func143 U (A [73,31,4,2,0,6,61] ?_)
 refine pl ([g].map zAB) 15 U U U U U U (A [33,15,41] (fun k _=>?_) zHB)
 refine A [57] ?_
 refine zAE U ?_ ?_
 ·refine A [80,12,2,0] ?_
  exact zHL 5 (q:=.sl 9 false ([].map zBG)) U .nil rN
 ·refine A [67,75,93,36] fun i _=>?_
  refine A [2,77,13,56,1040,192,9,7] ?_
  refine lw (zLJ fu i) [2,4,7,24,25] [4] (fun (h,b,d,e)=>[(26,Z h)]) (fun (h,b,d,e)=>[(1040,.arr 192 9 (b.map zBG)),(2,.box 24 [.sl 10 false (d.map zAX),Z e])]) fu (0,[],c.Nodes,c.Most) U U ?_
  rintro j ⟨h,b,d,e⟩
  refine A [75,10,8,86,61,12,2,0,34,1040,8,72,9,36] fun l _=>?_
  refine A [2,0,61,43] (fun a _=>?_) zHx [(2120,2330)] [2330]
  refine A [33,2330,104,31,10,12,2,0,52,8,4,2,4,7,24,25,26,10,11,10,1040,4,2,53,6,0,0,0,6,15,31,203] ?_
  refine vU [14,76,78,2081] [80,14,76,2081] [1040] U U (pa zBG b a.2.1 U U U U U U U U (zKg _) U U U (pyq U)) U U fun _ _=>A [50,3,1,4,5,74,5,201,19,94] fun f _=>?_
  exact A [89] (tx (f,(b++a.2.1),a.1.Nodes,a.1.Most))
def zGX (fu:Nat) (a:Op) (b:zAR) (m:Bool):Option (zCZ×zAR):=cnd m (bnd (zKT fu b.World.Forest a.A a.S a.T) fun c=>bnd (zCa fu c.1 c.2.1 c.2.2) fun h=>some (h,b)) (cnd (a.Kind==10) (bnd (zPc fu b.World.Forest a.A a.S) fun d=>bnd (zCa fu d.1 d.2.1 d.2.2) fun i=>some (i,b)) (cnd (a.Kind==11) (bnd (zN4 fu b.World.Forest a.A a.S a.B) fun e=>bnd (zCa fu e.1 e.2.1 e.2.2) fun j=>some (j,b)) (cnd (a.Kind==13) (bnd (zQ5 fu b.World.Forest a.A a.B) fun f=>bnd (zCa fu f.1 f.2.1 f.2.2) fun k=>some (k,b)) (bnd (zPf fu b.World.Forest a.A) fun g=>bnd (zCa fu g.1 g.2.1 g.2.2) fun l=>some (l,b)))))
def zGW (fu:Nat) (a:Op) (d:zAR) (g:Bool):Option (zCZ×zAR):=cnd g (bnd (zEK fu d.World.Forest a.A) fun b=>bnd (zCa fu b.1 b.2.1 b.2.2) fun e=>some (e,d)) (cnd (a.Kind==8) (bnd (zNO fu d.World.Forest a.A a.B a.C) fun c=>bnd (zCa fu c.1 c.2.1 c.2.2) fun f=>some (f,d)) (cnd (a.Kind==9) ((zGX fu a d) (a.Kind==9)) ((zGX fu a d) (a.Kind==28))))
def zGV (fu:Nat) (a:Op) (c:zAR) (e:Bool):Option (zCZ×zAR):=cnd e (bnd (zDU fu c.World.Forest a.A a.B a.C) fun b=>bnd (zCa fu b.1 b.2.1 b.2.2) fun d=>some (d,c)) (cnd (a.Kind==7) ((zGW fu a c) (a.Kind==7)) ((zGW fu a c) (a.Kind==27)))
def zGv (fu:Nat) (a:Op) (b:zAR):Option (zCZ×zAR):=cnd (a.Kind==2) (bnd (zGO fu (⟨1,a.S,a.T,[],[],0,[],0,0,a.A⟩:Node) b) fun f=>some (f.1,f.2)) (cnd (a.Kind==3) (bnd (zGO fu (⟨2,[],[],a.S,[],0,[],0,0,a.A⟩:Node) b) fun g=>some (g.1,g.2)) (cnd (a.Kind==4) (bnd (zGO fu (⟨3,[],[],[],[],0,[],0,0,a.A⟩:Node) b) fun h=>some (h.1,h.2)) (cnd (a.Kind==5) (bnd (zNP fu b.World.Forest a.A) fun d=>some ((⟨d.1,[],d.2.2⟩:zCZ),(⟨b.World,d.2.1⟩:zAR))) (cnd (a.Kind==12) (bnd (zQ3 fu b.World.Forest a.A a.C (a.B != 0)) fun e=>some ((⟨e.1,[],e.2.2⟩:zCZ),(⟨b.World,e.2.1⟩:zAR))) (cnd (a.Kind==15) (bnd (zQ4 fu b.World.Forest a.A) fun c=>some ((⟨c.1,c.2.2.1,c.2.2.2⟩:zCZ),(⟨b.World,c.2.1⟩:zAR))) (cnd (a.Kind==6) ((zGV fu a b) (a.Kind==6)) ((zGV fu a b) (a.Kind==26))))))))
theorem zNb {fu:Nat} {a:Op} {b:zAR}:FF (zGv fu a b) 84 [.loc 900000 0,.agg (cOp a)] [(900000,.box 99 (zB6 b))] [900000] (fun r=>.agg (zMc r.1)) fun r=>[(900000,.box 99 (zB6 r.2))]:=by
 refine fcI Tryz.func84 U (A [9,30,3,31,4,0,9,105,31,5,12,0,6,62,13,62] ?_)
 refine zAE U ?_ ?_
 ·refine A [9,107,20] ?_
  exact tqG (rn:=[(900000,900000)]) (ks:=[]) ⟨zHX⟩ U U U U U U U U (ha:=⟨⟨_,U,.rfl⟩,⟨_,U,(.agg ⟨.rfl,.rfl,.rfl,.rfl,.nil,.rfl,.nil,.rfl,.rfl,.rfl,trivial⟩)⟩,trivial⟩) fun C _=>A [12,74]
 ·refine A [62] ?_
  refine zAE U ?_ ?_
  ·refine A [9,105,20] ?_
   exact tqG (rn:=[(900000,900000)]) (ks:=[]) ⟨zHX⟩ U U U U U U U U (ha:=⟨⟨_,U,.rfl⟩,⟨_,U,(.agg ⟨.rfl,.rfl,.rfl,.rfl,.nil,.rfl,.nil,.rfl,.rfl,.rfl,trivial⟩)⟩,trivial⟩) fun D _=>A [12,74]
  ·refine A [62] ?_
   refine zAE U ?_ ?_
   ·refine A [93,20] ?_
    exact tqG (rn:=[(900000,900000)]) (ks:=[]) ⟨zHX⟩ U U U U U U U U (ha:=⟨⟨_,U,.rfl⟩,⟨_,U,(.agg ⟨.rfl,.rfl,.rfl,.rfl,.nil,.rfl,.nil,.rfl,.rfl,.rfl,trivial⟩)⟩,trivial⟩) fun E _=>A [12,74]
   ·refine A [62] ?_
    refine zAE U ?_ ?_
    ·refine A [93,41] (fun h _=>?_) zQ2
     refine A [104,31,6,12,2,0,76,12,0,61,20,12,0] ?_
     exact zFp 4 [.sl 10 false (h.1.Nodes.map zAX),Z h.1.Most,.sl 9 false ([].map zBG),Z h.2.2] U ⟨.rfl,.rfl,.nil,.rfl,trivial⟩ U rN
    ·refine A [62] ?_
     refine zAE U ?_ ?_
     ·refine A [9,108,41] (fun i _=>?_) zUf
      refine A [104,31,9,12,2,0,76,12,0,61,20,12,0] ?_
      exact zFp 4 [.sl 10 false (i.1.Nodes.map zAX),Z i.1.Most,.sl 9 false ([].map zBG),Z i.2.2] U ⟨.rfl,.rfl,.nil,.rfl,trivial⟩ U rN
     ·refine A [62] ?_
      refine zAE U ?_ ?_
      ·refine A [93,41] (fun F _=>?_) zUg
       exact A [105,31,12,12,3,0,76,12,0,93,20,12,74]
      ·refine A [6,62] ?_
       refine jw (zGV fu a b) [3,4,5,22] [5,4,3,900000] (fun j=>[(108,Y j)]) (fun _=>[]) U U ?_ fun c=>?_
       ·rintro j
        refine zIp (zAE U ?_ ?_)
        ·refine A [9,107,41] (fun k _=>?_) zKA
         refine A [3,41] (fun l _=>?_) zDc
         exact A [12,74]
        ·refine A [6,62] ?_
         refine jw (zGW fu a b) [3,4,5,22] [5,4,3,900000] (fun f=>[(123,Y f)]) (fun _=>[]) U U ?_ fun d=>?_
         ·rintro f
          refine zIp (zAE U ?_ ?_)
          ·refine A [93,43] (fun m _=>?_) zHx [(2120,3290)] [3290]
           refine A [33,3290,3,41] (fun n _=>?_) zDc
           exact A [12,74]
          ·refine A [62] ?_
           refine zAE U ?_ ?_
           ·refine A [9,107,41] (fun o _=>?_) zQq
            refine A [3,41] (fun p _=>?_) zDc
            exact A [12,74]
           ·refine A [6,62] ?_
            refine jw (zGX fu a b) [3,4,5,22] [5,4,3,900000] (fun g=>[(148,Y g)]) (fun _=>[]) U U ?_ fun e=>?_
            ·rintro g
             refine zIp (zAE U ?_ ?_)
             ·refine A [9,107,41] (fun q _=>?_) zQr
              refine A [3,41] (fun s _=>?_) zDc
              exact A [12,74]
             ·refine A [62] ?_
              refine zAE U ?_ ?_
              ·refine A [9,105,41] (fun t _=>?_) zTK
               refine A [3,41] (fun u _=>?_) zDc
               exact A [12,74]
              ·refine A [62] ?_
               refine zAE U ?_ ?_
               ·refine A [9,107,41] (fun v _=>?_) zR9
                refine A [3,41] (fun w _=>?_) zDc
                exact A [12,74]
               ·refine A [62] ?_
                refine zAE U ?_ ?_
                ·refine A [9,105,41] (fun x _=>?_) zUh
                 refine A [3,41] (fun y _=>?_) zDc
                 exact A [12,74]
                ·refine A [4,69,93,41] (fun z _=>?_) zTN
                 refine A [3,41] (fun B _=>?_) zDc
                 exact A [12,74]
            ·refine zAE U ?_ ?_
             ·exact A [4,45] (e (a.Kind==9))
             ·exact A [14,2,11,45] (e (a.Kind==28))
         ·refine zAE U ?_ ?_
          ·exact A [4,45] (d (a.Kind==7))
          ·exact A [14,2,11,45] (d (a.Kind==27))
       ·refine zAE U ?_ ?_
        ·exact A [4,45] (c (a.Kind==6))
        ·exact A [14,2,11,45] (c (a.Kind==26))
def zB5 (a:zAG) (b:Forest):Nat->Int->Option Bool
 | 0,_=>none
 | k1+1,t3=>cnd (decide (t3<(a.World.Forest.Nodes.length:Int))) (bnd (idx a.World.Forest.Nodes t3) fun d=>bnd (idx b.Nodes t3) fun e=>cnd (e.Kind != d.Kind) (some false) (bnd (rng .i64 (t3+1)) fun c=>(zB5 a b k1) c)) (some true)
def zET (fu:Nat) (b:zAG) (a:Forest):Option Bool:=cnd (a.Most != b.World.Forest.Most) (some false) (cnd (decide ((a.Nodes.length:Int)<(b.World.Forest.Nodes.length:Int))) (some false) ((zB5 b a) fu 0))
theorem zLp {fu:Nat} {b:zAG} {a:Forest}:DD (zET fu b a) 144 [.agg (zEX b),.agg (zAD a)] fun r=>Y r:=by
 refine fcI Tryz.func144 U (A [73,30,3,57,6,9,108,26,14,2,110,83,2,35,104,35,2,0,5,1,59,68,76,77,13] ?_)
 refine lw (zB5 b a) [3,28,29] [3] (fun c=>[(30,Z c)]) (fun _=>[]) fu 0 U U ?_
 rintro f c
 refine A [75,10,2,86,59,72,80,36] fun g _=>?_
 refine A [1,31,6,1,12,0,6,52,6,2,3,28,29,30,6,5,6,3,53,9,0,1,0,7,15,31,0,64,255,203] ?_
 refine vT [72,74] [76] [] U U (zBE (T:=tab) zAX a.Nodes U U U U U U U fun e _=>pzq U) (fun _=>U) (fun _=>U) fun e _=>A [205,79,5,1,59,4,94] fun d _=>?_
 exact A [89] (tx d)
def zMJ (fu:Nat) (c:Forest) (a:List State) (d:Desk) (b:List Class):Option (zDg×Bool):=cnd ((a.length:Int)==(c.Nodes.length:Int)) (bnd (zAo fu c) fun e=>cnd e (bnd (zGi fu d) fun f=>some ((⟨c,a,d,b⟩:zDg),f)) (some ((⟨c,a,d,b⟩:zDg),false))) (some ((⟨c,a,d,b⟩:zDg),false))
theorem zTP {fu:Nat} {c:Forest} {a:List State} {d:Desk} {b:List Class}:DD (zMJ fu c a d b) 214 [.agg (zAD c),.sl 4 false (a.map zBN),.agg (zIP d),.sl 5 false (b.map zBb)] fun r=>.tup [.agg (zLO r.1),Y r.2]:=by
 refine fcI Tryz.func214 U (A [9,30,4,30,6,31,8,57,6,52,5,3,1,3,4,6,8,8,6,4,53,21,0,0,0,0,15,0,32,0,128,384,992,2016,4064,8160,16352,32736,65504,131040,262112,262143,1048575,204,51,4,1,20,22,24,26,28,201] ?_)
 refine vS [30] [32] [] U U (zPy (T:=tab) zBN a U U U U U U U U (pyq U)) U U (vq 2 U (by kernel_rfl) (vS [36] [38] [] U U (zPy (T:=tab) zAX c.Nodes U U U U U U U U (pyq U)) U U (vq 2 U (by kernel_rfl) (zBP (t:=21) U ?_ ?_))))
 ·refine A [201,54,2,1,42,44,46] (fun e _=>?_) zA3
  refine vq 2 U (by kernel_rfl) (zBP (t:=25) U ?_ ?_)
  ·refine A [201,54,2,1,50,52,54] (fun f _=>?_) zK5
   exact A [201,50,3,1,16,17,28,17,201,79,8]
  ·exact A [203,50,3,1,16,17,28,17,201,79,8]
 ·exact A [207,50,3,1,16,17,28,17,201,79,8]
def zFI (_fu:Nat) (b:zDg) (a:Int):Option Bool:=cnd (decide (a>=0)) (cnd (decide (a<(b.Forest.Nodes.length:Int))) (bnd (idx b.Forest.Nodes a) fun c=>some (c.Kind==1)) (some false)) (some false)
theorem zNB {fu:Nat} {b:zDg} {a:Int}:DD (zFI fu b a) 215 [.agg (zLO b),Z a] fun r=>Y r:=by
 refine fcI Tryz.func215 U (A [73,57,93,27,7,2,118,74,104,35,3,27,15,2,110,74,104,36] fun c _=>?_)
 exact A [105,74]
def zJA (fu:Nat) (a:Forest) (b:Int) (c:Desk):Option Int:=cnd (decide (b<0)) (some (-1)) (cnd (decide (b>=(a.Nodes.length:Int))) (some (-1)) (bnd (zAo fu a) fun d=>cnd (!d) (some (-1)) (bnd (idx a.Nodes b) fun f=>bnd (zJB fu f c) fun e=>some e)))
theorem zPZ {fu:Nat} {a:Forest} {c:Int} {b:Desk}:DD (zJA fu a c b) 86 [.agg (zAD a),Z c,.agg (zIP b)] fun r=>Z r:=by
 refine fcI Tryz.func86 U (A [9,30,3,30,5,57,6,93,26,9,2,111,83,3,35,3,26,16,2,104,83,1,41] (fun e _=>?_) zA3)
 refine A [2,0,5,1,59,68,52,3,2,1,3,5,5,3,53,8,0,1,0,7,15,0,63,127,203] ?_
 refine vT [44,46] [48] [] U U (zBE (T:=tab) zAX a.Nodes U U U U U U U fun d _=>pzq U) (fun _=>U) (fun _=>U) fun d _=>A [202,54,2,1,50,52,54] (fun f _=>?_) zPa
 exact A [201,79,8]
def zHD (fu:Nat) (a:Class) (d:Bs):Option Bool:=bnd (zFy fu a 4) fun b=>cnd b (bnd (zA5 fu a.Watch d) fun c=>some c) (some false)
theorem zQA {fu:Nat} {a:Class} {b:Bs}:DD (zHD fu a b) 263 [.agg (zBb a),O b] fun r=>Y r:=by
 refine fcI Tryz.func263 U (A [73,57,80,41] (fun c _=>?_) zKE)
 refine A [1,27,7,2,106,74,3,41] (fun d _=>?_) zDA
 exact A [2,74]
def zBW (fu:Nat) (b:Note) (c:Class×Bool) (a:Bool):Option (Todo×Bool):=cnd a (bnd (zFy fu c.1 b.Kind) fun d=>some (({b with Def:=0,On:=false}:Todo),d)) (some (({b with Def:=0,On:=false}:Todo),false))
def zFH (fu:Nat) (c:zDg) (a:Note):Option (Todo×Bool):=bnd (idx c.states a.Node) fun e=>cnd (e.Phase==1) (bnd (zJA fu c.Forest a.Node c.desk) fun d=>cnd (a.Kind==1) (some ((⟨9,d,[],false,false,[],[],0,0,false⟩:Todo),(d != (-1)))) (some ((⟨9,d,[],false,false,[],[],0,0,false⟩:Todo),false))) (cnd (e.Phase==3) (bnd (zHC fu e c.desk c.classes) fun b=>cnd (a.Kind==4) (cnd b.2 (bnd (zHD fu b.1 a.Name) fun f=>(zBW fu a b) f) ((zBW fu a b) false)) (cnd (a.Kind==1) (cnd (a.Kind==1) ((zBW fu a b) b.2) (some ((⟨0,0,[],false,false,[],[],0,0,false⟩:Todo),false))) (cnd (a.Kind==2) (cnd (a.Kind==2) ((zBW fu a b) b.2) (some ((⟨0,0,[],false,false,[],[],0,0,false⟩:Todo),false))) (cnd (a.Kind==3) ((zBW fu a b) b.2) (some ((⟨0,0,[],false,false,[],[],0,0,false⟩:Todo),false)))))) (some ((⟨0,0,[],false,false,[],[],0,0,false⟩:Todo),false)))
theorem zNA {fu:Nat} {e:zDg} {d:Note}:DD (zFH fu e d) 216 [.agg (zLO e),.agg (zBG d)] fun r=>.tup [.agg (zKG r.1),Y r.2]:=by
 refine fcI Tryz.func216 U (A [73,30,3,31,4,57,76,36] fun i _=>?_)
 refine A [1,31,6,12,0,6,62,13,62] ?_
 refine zAE U ?_ ?_
 ·refine A [9,106,41] (fun g _=>?_) zPZ
  exact A [57,80,20,104,26,33,3,3,92,8,3,92,8]
 ·refine A [62,10,4,9,20,92,8,4,69,9,105,41] (fun c _=>?_) zNQ
  refine A [3,31,8,92,6,62,13,6] ?_
  refine jw (zBW fu d c) [3,4,8] [8,4,3] (fun b=>[(9,Y b)]) (fun _=>[]) U U ?_ fun a=>?_
  ·rintro b
   refine A [7,6,6,52,4,3,3,4,8,9,8,4,3,53,26,0,1,0,4,0,16,0,64,0,256,0,1024,0,4096,0,16384,65535,0,131072,393216,393216,1441792,4063232,8257536,8388607,33554431,216,51,8,1,128,132,136,140,144,148,152,156,158,202] ?_
   refine zBP (t:=81) U ?_ ?_
   ·refine A [203,54,3,1,162,164,168,170] (fun h _=>?_) zKE
    exact A [201,50,3,1,8,9,158,9,201,79,8]
   ·exact A [205,50,3,1,8,9,158,9,201,79,8]
  ·refine A [13,6,13,6,6,62] ?_
   refine zAE U ?_ ?_
   ·refine A [86,14,2] ?_
    refine zAT (j:=57) U ?_ ?_
    ·refine A [3,41] (fun f _=>?_) zQA
     exact A [2,11,15,45] (a f)
    ·exact A [106,11,15,45] (a false)
   ·refine A [68,62] ?_
    refine zAE U ?_ ?_
    ·exact A [67,10,6,67,86,9,20,92,8,17,45] (a c.2)
    ·refine A [62] ?_
     refine zAE U ?_ ?_
     ·exact A [67,10,6,67,86,9,20,92,8,17,45] (a c.2)
     ·exact A [14,2,0,10,6,67,86,9,20,92,8,17,45] (a c.2)
def zEt (fu:Nat) (a:List Note) (c:zDg×Bool):Nat->Int×(List Due)->Option (List Due)
 | 0,_=>none
 | k1+1,(t7,l8)=>cnd (decide (t7<(a.length:Int))) (bnd (idx a t7) fun d=>bnd (zFI fu c.1 d.Node) fun h=>cnd (!h) (bnd (rng .i64 (t7+1)) fun e=>(zEt fu a c k1) (e,l8)) (bnd (zFH fu c.1 d) fun b=>cnd b.2 (bnd (zDT 104 (l8.length+([(⟨d.Node,b.1⟩:Due)]:List Due).length)) fun _=>bnd (rng .i64 (t7+1)) fun f=>(zEt fu a c k1) (f,(l8++[(⟨d.Node,b.1⟩:Due)]))) (bnd (rng .i64 (t7+1)) fun g=>(zEt fu a c k1) (g,l8)))) (some l8)
def zLL (fu:Nat) (f:Forest) (b:List State) (e:Desk) (a:List Class) (c:List Note):Option (List Due):=bnd (zMJ fu f b e a) fun d=>cnd (!d.2) (some []) ((zEt fu c d) fu (0,[]))
theorem zUi {fu:Nat} {l:Forest} {c:List State} {k:Desk} {a:List Class} {b:List Note}:DD (zLL fu l c k a b) 147 [.agg (zAD l),.sl 4 false (c.map zBN),.agg (zIP k),.sl 5 false (a.map zBb),.sl 9 false (b.map zBG)] fun r=>.sl 11 false (r.map zI3):=by
 refine fcI Tryz.func147 U (A [9,30,5,30,7,57,76,41] (fun n _=>?_) zTP)
 refine A [3,31,11,92,6,62] ?_
 refine zAE U ?_ ?_
 ·refine A [58] ?_
  exact zHL 10 (q:=.sl 11 false ([].map zI3)) U .nil rN
 ·refine A [67,75,80,77,13,56,1052,171,11,13] ?_
  refine lw (zEt fu b n) [11,13,28,29] [11] (fun (i,d)=>[(30,Z i)]) (fun (i,d)=>[(1052,.arr 171 11 (d.map zI3))]) fu (0,[]) U U ?_
  rintro o ⟨i,d⟩
  refine A [75,10,5,86,62,34,1052,8,72,9,36] fun j _=>?_
  refine A [1,31,15,12,0,6,93,41] (fun m _=>?_) zNB
  refine A [57] ?_
  refine zAE U ?_ ?_
  ·refine A [86,14,16] fun f _=>?_
   exact A [89] (tx (f,d))
  ·refine A [67,99] (fun e _=>?_) zNA
   refine A [3,31,16,92,58] ?_
   refine zAE U ?_ ?_
   ·refine A [14,104,20] ?_
    refine pl ([(⟨j.Node,e.1⟩:Due)].map zI3) 51 U U U U U U (pa zI3 d ([(⟨j.Node,e.1⟩:Due)]:List Due) U U U U U U U U (zQR _) U U U (A [1,11,94] fun g _=>?_))
    exact A [89] (tx (g,(d++[(⟨j.Node,e.1⟩:Due)])))
   ·refine A [4,94] fun h _=>?_
    exact A [89] (tx (h,d))
def zGm (fu:Nat) (c:Forest) (a:zMD):Nat->Int×(List Int)×(List (Int×(List (Bs×Int))))->Option (List Int)
 | 0,_=>none
 | k1+1,(t4,l5,l6)=>cnd (decide (t4<(c.Nodes.length:Int))) (bnd (zEn fu a.Forest.Nodes a.Forest.Most t4 l6) fun b=>bnd (zDT 8 (l5.length+([b.1]:List Int).length)) fun _=>bnd (rng .i64 (t4+1)) fun d=>(zGm fu c a k1) (d,(l5++[b.1]),b.2)) (some l5)
def zLA (fu:Nat) (a:Forest):Option (List Int):=bnd (zAo fu a) fun c=>cnd (!c) (some []) (bnd (zIF fu a) fun b=>(zGm fu a b) fu (0,[],b.ids))
theorem zUd {fu:Nat} {c:Forest}:DD (zLA fu c) 217 [.agg (zAD c)] fun r=>.sl 1 false (r.map zAB):=by
 refine fcI Tryz.func217 U (A [9,30,1,57,6,80,41] (fun i _=>?_) zA3)
 refine A [57] ?_
 refine zAE U ?_ ?_
 ·refine A [58] ?_
  exact zHL 2 (q:=.sl 1 false ([].map zAB)) U .nil rN
 ·refine A [67,58,80,43] (fun f _=>?_) zOA [(4,2100)] [2100]
  refine A [31,4,12,0,6,61,77,13,56,1022,3,1,3] ?_
  refine lw (zGm fu c f) [3,4,13] [4] (fun (e,a,d)=>[(14,Z e)]) (fun (e,a,d)=>[(1022,.arr 3 1 (a.map zAB)),(2100,.mp (d.map fun p:Int×(List (Bs×Int))=>(zNz .i64 p.1,.mpd (p.2.map fun p:Bs×Int=>(zNG p.1,Z p.2)))))]) fu (0,[],f.ids) U U ?_
  rintro h ⟨e,a,d⟩
  refine A [75,10,5,86,62,34,1022,8,72,62,14,3,43] (fun b _=>?_) zJw [(900000,2100)]
  refine pl ([b.1].map zAB) 21 U U U U U U (pa zAB a ([b.1]:List Int) U U U U U U U U (zDF _) U U U (A [1,11,94] fun g _=>?_))
  exact A [89] (tx (g,(a++[b.1]),b.2))
def zFd (fu:Nat) (a:Node):Option Bool:=bnd (zFs fu a.Attrs [100,105,115,97,98,108,101,100]) fun b=>cnd (a.Kind==1) (some b.2) (some false)
theorem zLd {fu:Nat} {a:Node}:DD (zFd fu a) 282 [.agg (zAX a)] fun r=>Y r:=by
 refine fcI Tryz.func282 U (A [9,30,1,57,99] (fun b _=>?_) zHW)
 exact A [105,0,76,26,14,2,3,74,3,74]
def zDC (_fu:Nat) (b:Int) (a:Forest):Option Bool:=bnd (idx a.Nodes b) fun c=>cnd (c.Kind==1) (bnd (idx a.Nodes b) fun d=>some (d.Name==([108,101,103,101,110,100]:Bs))) (some false)
theorem zP0 {fu:Nat} {b:Int} {a:Forest}:FF (zDC fu b a) 287 [Z b,.loc 900000 0] [(900000,.box 24 (zAD a))] [900000] (fun r=>Y r) fun _=>[(900000,.box 24 (zAD a))]:=by
 refine fcI Tryz.func287 U (A [58,93,36] fun c _=>?_)
 refine A [104,27,11,2,109,74,3,36] fun d _=>?_
 exact A [105,74]
end Go.Proofs.YtmfbghpealgaiaaGreatDoor
