/- Models and proofs, printed by emit2.py. -/
import Derived.Test.YtmfbghpealgaiaaGreatDoorG3
namespace Go.Proofs.YtmfbghpealgaiaaGreatDoor
open Go Go.Pw
set_option maxRecDepth 100000
set_option maxHeartbeats 10000000
set_option linter.unusedVariables false
theorem zPC {fu:Nat} {i a d:Int} {l4:List (Node×Bool)} {o:List Note}:FF (zGk fu i a d l4 o) 96 [.loc 900000 0,Z i,Z a] [(900000,.box 131 [.own 900001,Z d,.own 900002]),(900001,.tre 77 10 6 3 (l4.map nB)),(900002,.arr 192 9 (o.map zBI))] [900000,900001] (fun _=>.tup []) fun r=>[(900000,.box 131 [.own 900001,Z d,.own 900002]),(900001,.tre 77 10 6 3 (r.1.map nB)),(900002,.arr 192 9 (r.2.map zBI))]:=by
 refine fcI Tryz.func96 U (A [61,43] (fun e _=>?_) zGj [(900000,900000),(900001,900001),(900002,900002)] [900002])
 refine A [0,9,106] ?_
 refine zBS (T:=tab) e.1 (by simp) U U U U U U U U fun q k=>pq 1 U (zEj (T:=tab) (zHe (f:=nB) (zAx k)) U U U U U U U U (A [57,6,93,0,5,1,8,68,9,105] ?_))
 refine zN8 (ps:=[.agg [.own 900001,Z d],Z i]) [(900001,.sl 10 false ((e.1.map Prod.fst).map zAZ))] [2290] (enc:=fun (j:(List Int))=>.own 2290) (Sr:=fun (j:(List Int))=>[(2290,.arr 3 1 (j.map zAB))]) (qs:=[.agg (zAE (⟨(e.1.map Prod.fst),d⟩:Forest)),Z i]) (Sc:=[]) (N0:=[]) (NR:=[2290]) (fun j g=>zP0 [(1035,2290)] [1035] (zKE _ g) U U U U U U) trivial (fun _=>U) U U U U U U U (fun _=>U) (fun _=>U) ⟨zOr (nB) Prod.fst zAZ e.1 (fun _=>U) (fun _=>U) U,trivial⟩ U U (fun _=>U) (fun _=>by first | rfl | simp [zL3,zC9,zAB]) U U U ⟨⟨_,U,.rfl⟩,⟨_,U,.rfl⟩,trivial⟩ zWj U U fun j g=>A [33,2290,77,13] ?_
 refine lw (zDX fu i a d e q j) [0,1,2,6,29,30] [900000,900002] (fun (m,b)=>[(31,Z m)]) (fun (m,b)=>[(900001,.tre 77 10 6 3 (b.map nB))]) fu (0,e.1) U U ?_
 rintro s ⟨m,b⟩
 refine A [75] ?_
 refine zAD U ?_ ?_
 ·refine A [72,9,36] fun n _=>?_
  refine A [2,0,14,107] ?_
  refine zBS (T:=tab) b (by simp) U U U U U U U U fun c h=>pq 1 U (zKM (T:=tab) (nB) b c ((({c.1 with Doc:=a}:Node),c.2):Node×Bool) (zAx h) U U U U U U U U U U U U U U U (A [11,94] fun l _=>?_))
  exact A [89] (tx (l,(b.set (n).toNat (({c.1 with Doc:=a}:Node),c.2))))
 ·refine A [86,14,104,20,43] (fun p _=>?_) zHp [(900000,900000),(900001,900001),(900002,900002)] [900002]
  exact zGK (zKZ (T:=tab) U U U ⟨U,U⟩ ⟨U,U,U,trivial⟩ U)
def zFT (fu:Nat) (p2 m h b:Int) (a:(List (Node×Bool))×(List Note)) (d:Node×Bool) (g:(Int×(List (Node×Bool))×(List Note))->Option ((List (Node×Bool))×(List Note))) (f:Int):Option ((List (Node×Bool))×(List Note)):=bnd (idx a.1 p2) fun n=>bnd (zMy fu d.1.Kids f [b]) fun e=>bnd (idx a.1 p2) fun o=>bnd (idx (a.1.set (p2).toNat (({d.1 with Kids:=e}:Node),true)) b) fun c=>bnd (zCH fu (⟨(((a.1.set (p2).toNat (({d.1 with Kids:=e}:Node),true)).set (b).toNat (({c.1 with Parent:=p2}:Node),c.2)).map Prod.fst),m⟩:Forest) b) fun k=>cnd k (bnd (zEA fu b (⟨1,0,0,0,[],false,false,[],[]⟩:Note) m ((a.1.set (p2).toNat (({d.1 with Kids:=e}:Node),true)).set (b).toNat (({c.1 with Parent:=p2}:Node),c.2)) a.2) fun l=>bnd (rng .i64 (h+1)) fun i=>g (i,((a.1.set (p2).toNat (({d.1 with Kids:=e}:Node),true)).set (b).toNat (({c.1 with Parent:=p2}:Node),c.2)),l)) (bnd (rng .i64 (h+1)) fun j=>g (j,((a.1.set (p2).toNat (({d.1 with Kids:=e}:Node),true)).set (b).toNat (({c.1 with Parent:=p2}:Node),c.2)),a.2))
def zA6 (fu:Nat) (p2 a e:Int) (f:List Int):Nat->Int×(List (Node×Bool))×(List Note)->Option ((List (Node×Bool))×(List Note))
 | 0,_=>none
 | k2+1,(t17,l18,l19)=>cnd (decide (t17<(f.length:Int))) (bnd (idx f t17) fun d=>bnd (idx l18 p2) fun h=>bnd (zGk fu d h.1.Doc e l18 l19) fun c=>bnd (idx c.1 p2) fun b=>bnd (zSd b.2) fun _=>cnd (a != (-1)) (bnd (idx c.1 p2) fun i=>bnd (zC0 fu a b.1.Kids) fun g=>(zFT fu p2 e t17 d c b (zA6 fu p2 a e f k2)) g) ((zFT fu p2 e t17 d c b (zA6 fu p2 a e f k2)) (b.1.Kids.length:Int))) (some (l18,l19))
def zD8 (fu:Nat) (p2 a b:Int) (c:List Int) (d:(List (Node×Bool))×(List Note)):Option ((List (Node×Bool))×(List Note)):=match d with
 | (l15,l16)=>(zA6 fu p2 a b c) fu (0,l15,l16)
def zD9 (fu:Nat) (p2 a d:Int) (c:List Int):Nat->Int×(List (Node×Bool))×(List Note)->Option ((List (Node×Bool))×(List Note))
 | 0,_=>none
 | k1+1,(t9,l10,l11)=>cnd (decide (t9<(c.length:Int))) (bnd (idx c t9) fun f=>bnd (zDi fu f d l10 l11) fun b=>bnd (rng .i64 (t9+1)) fun e=>(zD9 fu p2 a d c k1) (e,b.1,b.2)) ((zD8 fu p2 a d c) (l10,l11))
def zDj (fu:Nat) (e p2 a c:Int) (b:List (Node×Bool)) (d:List Note):Option ((List (Node×Bool))×(List Note)):=bnd (zI7 fu (⟨(b.map Prod.fst),c⟩:Forest) e) fun f=>bnd (idx b e) fun g=>cnd (g.1.Kind==3) ((zD9 fu p2 a c f) fu (0,b,d)) ((zD8 fu p2 a c f) (b,d))
theorem zLy {fu:Nat} {G p2 a h:Int} {p:List (Node×Bool)} {F:List Note}:FF (zDj fu G p2 a h p F) 50 [.loc 900000 0,Z G,Z p2,Z a] [(900000,.box 131 [.own 900001,Z h,.own 900002]),(900001,.tre 77 10 6 3 (p.map nB)),(900002,.arr 192 9 (F.map zBI))] [900000,900001] (fun _=>.tup []) fun r=>[(900000,.box 131 [.own 900001,Z h,.own 900002]),(900001,.tre 77 10 6 3 (r.1.map nB)),(900002,.arr 192 9 (r.2.map zBI))]:=by
 refine fcI Tryz.func50 U (A [9,105] ?_)
 refine zN8 (ps:=[.agg [.own 900001,Z h],Z G]) [(900001,.sl 10 false ((p.map Prod.fst).map zAZ))] [2190] (enc:=fun (j:(List Int))=>.own 2190) (Sr:=fun (j:(List Int))=>[(2190,.arr 3 1 (j.map zAB))]) (qs:=[.agg (zAE (⟨(p.map Prod.fst),h⟩:Forest)),Z G]) (Sc:=[]) (N0:=[]) (NR:=[2190]) (fun j x=>zP0 [(2250,2190)] [2250] (zSV _ x) U U U U U U) trivial (fun _=>U) U U U U U U U (fun _=>U) (fun _=>U) ⟨zOr (nB) Prod.fst zAZ p (fun _=>U) (fun _=>U) U,trivial⟩ U U (fun _=>U) (fun _=>by first | rfl | simp [zL3,zC9,zAB]) U U U ⟨⟨_,U,.rfl⟩,⟨_,U,.rfl⟩,trivial⟩ call95 U U fun j x=>A [57,6,9,106] ?_
 refine zBS (T:=tab) p (by simp) U U U U U U U U fun y8 H=>pq 1 U (zEj (T:=tab) (zHe (f:=nB) (zAx H)) U U U U U U U U (A [57] ?_))
 refine jw (zD8 fu p2 a h j) [0,2,3,8] [2190,900000] (fun _=>[]) (fun (q,s)=>[(900001,.tre 77 10 6 3 (q.map nB)),(900002,.arr 192 9 (s.map zBI))]) U U ?_ fun v=>?_
 ·rintro ⟨q,s⟩
  refine A [7,80,39,57,13] ?_
  refine lw (zA6 fu p2 a h j) [0,2,3,40,41] [2190,900000] (fun (n,m,t)=>[(42,Z n)]) (fun (n,m,t)=>[(900001,.tre 77 10 6 3 (m.map nB)),(900002,.arr 192 9 (t.map zBI))]) fu (0,q,s) U U ?_
  rintro V ⟨n,m,t⟩
  refine A [75] ?_
  refine zAD U ?_ ?_
  ·refine A [72,9,38] fun d z=>?_
   refine zAv (T:=tab) zAB j d (zAx z) U U U U U U U U (A [57,9,108] ?_)
   refine zBS (T:=tab) m (by simp) U U U U U U U U fun W B=>pq 1 U (zEj (T:=tab) (zHe (f:=nB) (zAx B)) U U U U U U U U (A [43] (fun b _=>?_) zPC [(900000,900000),(900001,900001),(900002,900002)] [900002]))
   refine A [0,9,106] ?_
   refine zBS (T:=tab) b.1 (by simp) U U U U U U U U fun e C=>pq 1 U (zUV (T:=tab) 700066 (zHe (f:=nB) (zAx C)) U U U U U U U U U U U U U U U (A [39,57,6,62] ?_))
   refine jw (zFT fu p2 h n d b e (zA6 fu p2 a h j V)) [0,2,3,12,40,41,42] [700066,900000,900001,900002,2190] (fun i=>[(13,Z i)]) (fun _=>[]) U U ?_ fun w=>?_
   ·rintro i
    refine A [7,6,52,8,5,0,2,3,12,13,40,41,42,700066,900000,900001,900002,2190,96] ?_
    refine vT [182,184,1800003] [186] [] U U (zPZ (T:=tab) b.1 (by simp) U U U U U U U U fun Q _=>pzq U) (fun _=>U) (fun _=>U) fun Q _=>vq 1 U (by kernel_rfl) (vS [188,1800003] [190] [] U U (zN9 (T:=tab) U U U U U U U (pyq U)) U U (vq 2 U (by kernel_rfl) (vS [194] [196,197] [98] U U (pl ([d].map zAB) 98 U U U U U U (pyq U)) U U (vT [190,192,196,197,1400133,1800003] [198,190,1400133,1800003] [700066] U U (tq [(700066,700066),(98,98)] [700066] (zbD fu 700066 98 e.1.Kids i [d]) U U U U U U U U fun g _=>pzq U) (fun _=>U) (fun _=>U) fun g _=>vT [170,172,1800003] [200] [] U U (zPZ (T:=tab) b.1 (by simp) U U U U U U U U fun S o=>pzq U) (fun _=>U) (fun _=>U) fun S o=>vq 1 U (by kernel_rfl) (vS [198,202,1400133,1800003] [198,1400133,1800003] [] U U (zb0 900001 U U (zUT (T:=tab) (zW2 (zAx o)) (zT7 (f:=nB) ((({e.1 with Kids:=g}:Node),true):Node×Bool) (by rfl)) U U U U U U U U U U U (pyq U))) U U (A [79,9,107] ?_))))))
    refine zBS (T:=tab) (b.1.set (p2).toNat (({e.1 with Kids:=g}:Node),true)) (by simp) U U U U U U U U fun c D=>pq 1 U (zKM (T:=tab) (nB) (b.1.set (p2).toNat (({e.1 with Kids:=g}:Node),true)) c ((({c.1 with Parent:=p2}:Node),c.2):Node×Bool) (zAx D) U U U U U U U U U U U U U U U (A [0,9,105] ?_))
    refine zN8 (ps:=[.agg [.own 900001,Z h],Z d]) [(900001,.sl 10 false ((((b.1.set (p2).toNat (({e.1 with Kids:=g}:Node),true)).set (d).toNat (({c.1 with Parent:=p2}:Node),c.2)).map Prod.fst).map zAZ))] [] (enc:=fun (u:Bool)=>Y u) (Sr:=fun (u:Bool)=>[]) (qs:=[.agg (zAE (⟨(((b.1.set (p2).toNat (({e.1 with Kids:=g}:Node),true)).set (d).toNat (({c.1 with Parent:=p2}:Node),c.2)).map Prod.fst),h⟩:Forest)),Z d]) (Sc:=[]) (N0:=[]) (NR:=[]) zEK trivial (fun _=>U) U U U U U U U (fun _=>U) (fun _=>U) ⟨zOr (nB) Prod.fst zAZ ((b.1.set (p2).toNat (({e.1 with Kids:=g}:Node),true)).set (d).toNat (({c.1 with Parent:=p2}:Node),c.2)) (fun _=>U) (fun _=>U) U,trivial⟩ U U (fun _=>U) (fun _=>by first | rfl | simp [zL3,zC9,zAB]) U U U ⟨⟨_,U,.rfl⟩,⟨_,U,.rfl⟩,trivial⟩ ze7 U U fun u _=>ns (zAD U ?_ ?_)
    ·refine A [14,2,20,43] (fun M _=>?_) zHp [(900000,900000),(900001,900001),(900002,900002)] [900002]
     refine A [11,94] fun J _=>?_
     exact A [89] (tx (J,((b.1.set (p2).toNat (({e.1 with Kids:=g}:Node),true)).set (d).toNat (({c.1 with Parent:=p2}:Node),c.2)),M))
    ·refine A [4,94] fun K _=>?_
     exact A [89] (tx (K,((b.1.set (p2).toNat (({e.1 with Kids:=g}:Node),true)).set (d).toNat (({c.1 with Parent:=p2}:Node),c.2)),b.2))
   ·refine zAD U ?_ ?_
    ·refine A [14,106] ?_
     refine zPZ (T:=tab) b.1 (by simp) U U U U U U U U fun X _=>pq 1 U (zN9 (T:=tab) U U U U U U U (A [1,44] (fun L _=>?_) zHg [(900000,700066)]))
     exact A [1,11,45] (w L)
    ·exact A [4,45] (w (e.1.Kids.length:Int))
  ·exact zUY U (zKZ (T:=tab) U U U ⟨U,U⟩ ⟨U,U,U,trivial⟩ U)
 ·refine zAD U ?_ ?_
  ·refine A [80,39,57,13] ?_
   refine lw (zD9 fu p2 a h j) [0,2,3,8,30,31] [2190,900000] (fun (N,k,l)=>[(32,Z N)]) (fun (N,k,l)=>[(900001,.tre 77 10 6 3 (k.map nB)),(900002,.arr 192 9 (l.map zBI))]) fu (0,p,F) U U ?_
   rintro k1 ⟨N,k,l⟩
   refine A [75] ?_
   refine zAD U ?_ ?_
   ·refine A [72,9,38] fun P y=>?_
    refine zAv (T:=tab) zAB j P (zAx y) U U U U U U U U (A [57,14,2,43] (fun E _=>?_) zGj [(900000,900000),(900001,900001),(900002,900002)] [900002])
    refine A [11,94] fun I _=>?_
    exact A [89] (tx (I,E.1,E.2))
   ·exact A [17,45] (v (k,l))
  ·exact A [4,45] (v (p,F))
def zHI (fu:Nat) (d a b:Int) (e:Forest) (f:Int) (g:List (Node×Bool)) (h:List Note):Option ((Option (Bs×Int))×(List (Node×Bool))×(List Note)):=bnd (zIE fu e a b f) fun i=>bnd (zDj fu a b i d g h) fun c=>some (none,c.1,c.2)
theorem zQC {fu:Nat} {a b c:Int} {d:Forest} {e:Int} {f:List (Node×Bool)} {g:List Note}:FF (zHI fu a b c d e f g) 49 [.loc 900000 0,.loc 900001 0,.loc 900002 0,.loc 900003 0,.loc 900004 0] [(900000,.box 131 [.own 900005,Z a,.own 900006]),(900001,.box 3 [Z b]),(900002,.box 3 [Z c]),(900003,.box 24 (zAE d)),(900004,.box 3 [Z e]),(900005,.tre 77 10 6 3 (f.map nB)),(900006,.arr 192 9 (g.map zBI))] [900000,900001,900002,900003,900004,900005] (fun r=>.v (zRa 181 179 r.1)) fun r=>[(900000,.box 131 [.own 900005,Z a,.own 900006]),(900001,.box 3 [Z b]),(900002,.box 3 [Z c]),(900003,.box 24 (zAE d)),(900004,.box 3 [Z e]),(900005,.tre 77 10 6 3 (r.2.1.map nB)),(900006,.arr 192 9 (r.2.2.map zBI))]:=by
 refine fcI Tryz.func49 U (A [75,52,5,7,0,1,2,3,4,900000,900001,900002,900003,900004,900005,900006,53,9,0,0,0,0,0,0,0,120,255,207,54,4,1,20,22,24,26,28] (fun h _=>?_) zRE)
 refine A [55,7,4,14,16,18,28,1800001,1800011,1800013,30,1800011,1800013,1800001] (fun i _=>?_) zLy [(900000,900000),(900001,900005),(900002,900006)] [900006]
 exact A [79,59]
def zDC (fu:Nat) (g:Int->(List (Node×Bool))->(List Note)->Option ((Option (Bs×Int))×(List (Node×Bool))×(List Note))) (d:Forest) (a:Option (Bs×Int)):Option (Forest×(List Note)×Int):=bnd (zKj fu d) fun b=>cnd a.isNone (bnd (g b.2.1 b.2.2.1 b.2.2.2) fun c=>cnd c.1.isSome (bnd (zcj fu c.1) fun f=>some (d,([]:List Note),f)) (some ((⟨(c.2.1.map Prod.fst),b.2.1⟩:Forest),c.2.2,0))) (cnd a.isSome (bnd (zcj fu a) fun e=>some (d,([]:List Note),e)) (some ((⟨(b.2.2.1.map Prod.fst),b.2.1⟩:Forest),b.2.2.2,0)))
theorem zUx {fu:Nat} {g:Forest} {a:Option (Bs×Int)} {b c:Int} {d:Forest} {e:Int}:FF (zDC fu (fun (k:Int) (l:(List (Node×Bool))) (m:(List Note))=>zHI fu k b c d e l m) g a) 46 [.agg (zAE g),.v (zRa 181 179 a),.fn (.func 49) [] [.loc 900000 0,.loc 900001 0,.loc 900002 0,.loc 900003 0]] [(900000,.box 3 [Z b]),(900001,.box 3 [Z c]),(900002,.box 24 (zAE d)),(900003,.box 3 [Z e])] [900000,900001,900002,900003] (fun r=>.tup [.agg (zAE r.1),.own 2101102,Z r.2.2]) fun r=>[(900000,.box 3 [Z b]),(900001,.box 3 [Z c]),(900002,.box 24 (zAE d)),(900003,.box 3 [Z e]),(2101102,.arr 192 9 (r.2.1.map zBI))]:=by
 refine fcI Tryz.func46 U (A [9,30,3,31,6,2,0,80,43] (fun i _=>?_) zHr [(12,2101100),(2070,2101101),(31202,2101102)] [2101100,2101101,2101102])
 refine A [57,6,80] ?_
 refine zFQ Tryz.underlying122 U U U U U U (ns (zAD U ?_ ?_))
 ·refine A [14,2,43] (fun h _=>?_) zQC [(900000,2101100),(900001,900000),(900002,900001),(900003,900002),(900004,900003),(900005,2101101),(900006,2101102)] [2101102]
  refine A [57,6,80] ?_
  refine zFQ Tryz.underlying122 U U U U U U (ns (zAD U ?_ ?_))
  ·refine A [6,81,202] ?_
   exact vT [40] [42] [] U U (pk (zL4 fu h.1) U U fun j _=>pzq U) (fun _=>U) (fun _=>U) fun j _=>A [84,90,8]
  ·refine A [78,60,66,79] ?_
   exact zDa 2101101 (nB) Prod.fst zAZ h.2.1 (fun _=>U) (fun _=>U) U U U rN
 ·refine A [68,80] ?_
  refine zFQ Tryz.underlying122 U U U U U U (ns (zAD U ?_ ?_))
  ·refine A [6,81,202] ?_
   exact vT [40] [42] [] U U (pk (zL4 fu a) U U fun f _=>pzq U) (fun _=>U) (fun _=>U) fun f _=>A [84,90,8]
  ·refine A [78,60,66,79] ?_
   exact zDa 2101101 (nB) Prod.fst zAZ i.2.2.1 (fun _=>U) (fun _=>U) U U U rN
def zDK (fu:Nat) (b:Forest) (d e a:Int):Option (Forest×(List Note)×Int):=bnd (zEh fu b d e a) fun f=>bnd (zBQ fu [112,117,116] f) fun g=>bnd (zDC fu (fun (h:Int) (i:(List (Node×Bool))) (j:(List Note))=>zHI fu h d e b a i j) b g) fun c=>some (c.1,c.2.1,c.2.2)
theorem zNe {fu:Nat} {b:Forest} {c d a:Int}:DD (zDK fu b c d a) 19 [.agg (zAE b),Z c,Z d,Z a] fun r=>.tup [.agg (zAE r.1),.sl 9 false (r.2.1.map zBI),Z r.2.2]:=by
 refine fcI Tryz.func19 U (A [9,30,4,30,5,30,6,30,7,31,8,2,0,6,52,5,5,4,5,6,7,8,8,7,6,5,4,53,15,0,0,0,0,0,30,62,0,255,511,511,511,4095,8191,16383,205,54,4,1,24,26,28,30,32] (fun f _=>?_) zPp)
 refine A [54,1,1,32,34] (fun g _=>?_) zB4
 exact vq 1 U (by kernel_rfl) (vT [9,11,13,15,22,34,36] [38,4381] [2190] U U (tqG (rn:=[(900000,5),(900001,6),(900002,4),(900003,7),(2101102,2190)]) (ks:=[2190]) ⟨zUx⟩ U U U U U U U U fun e _=>zGf 2190 U U U (pzq U)) (fun _=>U) (fun _=>U) fun e _=>A [203,50,3,1,16,17,40,17,202,79,8])
def zG6 (fu:Nat) (c:Forest×Int×Int) (e:Node):Nat->Int×(List Note)×(List Node)×Int->Option (Forest×Int×(List Note)×Int)
 | 0,_=>none
 | k1+1,(t8,l9,c10,c11)=>cnd (decide (t8<(e.Kids.length:Int))) (bnd (idx e.Kids t8) fun d=>bnd (zDK fu (⟨c10,c11⟩:Forest) d c.2.1 (-1)) fun a=>bnd (zDI 88 (l9.length+a.2.1.length)) fun _=>bnd (rng .i64 (t8+1)) fun b=>(zG6 fu c e k1) (b,(l9++a.2.1),a.1.Nodes,a.1.Most)) (some ((⟨c10,c11⟩:Forest),c.2.1,l9,0))
def zLc (fu:Nat) (a:Forest) (c:Int):Option (Forest×Int×(List Note)×Int):=bnd (zEz fu a [c]) fun d=>cnd (!d) (some (a,(-1),[],1)) (bnd (idx a.Nodes c) fun e=>cnd (e.Kind==2) (some (a,(-1),[],5)) (bnd (idx a.Nodes c) fun f=>bnd (zDJ fu a (⟨3,[],[],[],[],0,[],0,0,f.Doc⟩:Node)) fun b=>cnd (b.2.2 != 0) (some (a,(-1),[],b.2.2)) (bnd (idx a.Nodes c) fun g=>(zG6 fu b g) fu (0,[],b.1.Nodes,b.1.Most))))
theorem zU2 {fu:Nat} {f:Forest} {h:Int}:DD (zLc fu f h) 137 [.agg (zAE f),Z h] fun r=>.tup [.agg (zAE r.1),Z r.2.1,.sl 9 false (r.2.2.1.map zBI),Z r.2.2.2]:=by
 refine fcI Tryz.func137 U (A [73,31,4,3,0,6,13,61] ?_)
 refine pl ([h].map zAB) 20 U U U U U U (A [33,20,41] (fun n _=>?_) zHR)
 refine A [2,0] ?_
 refine zAD U ?_ ?_
 ·refine A [80,12,3,0] ?_
  exact zHc 6 (q:=.sl 9 false ([].map zBI)) U .nil rN
 ·refine A [93,36] fun o _=>?_
  refine A [104,0] ?_
  refine zAD U ?_ ?_
  ·refine A [80,12,3,0] ?_
   exact zHc 6 (q:=.sl 9 false ([].map zBI)) U .nil rN
  ·refine A [4,69,6,52,3,2,1,2,4,4,2,53,17,0,0,2,0,14,30,62,126,255,511,1023,1023,1023,0,10239,28671,65535,204] ?_
   refine vT [72,74] [76] [] U U (zE1 (T:=tab) zAZ f.Nodes U U U U U U U fun j _=>pzq U) (fun _=>U) (fun _=>U) fun j _=>A [202,51,1,1,80,82] ?_
   refine vT [68,82] [84] [] U U (zKa (enc:=fun (b:(Forest×Int×Int))=>.tup [.agg (zAE b.1),Z b.2.1,Z b.2.2]) (qs:=[.agg (zAE f),.agg (zAZ (⟨3,[],[],[],[],0,[],0,0,j.Doc⟩:Node))]) zIA U U ⟨⟨_,U,.rfl⟩,⟨_,U,(.agg ⟨.rfl,.rfl,.rfl,.rfl,.nil,.rfl,.nil,.rfl,.rfl,.rfl,trivial⟩)⟩,trivial⟩ (fun _=>U) zfu U U fun b _=>pzq U) (fun _=>U) (fun _=>U) fun b _=>vq 4 U (by kernel_rfl) (vS [] [16,17] [8] U U (zFf (T:=tab) 8 U U U U U U U U U (pyq U)) U U (A [50,3,1,16,17,86,17,202,79,6,62] ?_))
   refine zAD U ?_ ?_
   ·refine A [61,12,3,0] ?_
    exact zHc 6 (q:=.sl 9 false ([].map zBI)) U .nil rN
   ·refine A [67,75,93,36] fun l _=>?_
    refine A [2,77,13,56,1072,192,9,11] ?_
    refine lw (zG6 fu b l) [4,8,9,11,55,56] [4] (fun (i,e,c,d)=>[(57,Z i)]) (fun (i,e,c,d)=>[(1072,.arr 192 9 (e.map zBI)),(8,.box 24 [.sl 10 false (c.map zAZ),Z d])]) fu (0,[],b.1.Nodes,b.1.Most) U U ?_
    rintro m ⟨i,e,c,d⟩
    refine A [75,10,8,86,93,12,3,0,34,1072,8,72,9,36] fun k _=>?_
    refine A [2,0,93,41] (fun a _=>?_) zNe
    refine A [104,31,14,12,2,0,52,9,4,4,8,9,11,55,56,57,14,15,14,1072,8,4,53,6,0,0,0,6,15,31,203] ?_
    refine vU [22,140,142,2145] [144,22,140,2145] [1072] U U (pa zBI e a.2.1 U U U U U U U U (zKt _) U U U (pyq U)) U U fun _ _=>A [50,3,1,16,17,138,17,201,19,94] fun g _=>?_
    exact A [89] (tx (g,(e++a.2.1),a.1.Nodes,a.1.Most))
def zAn (_fu:Nat) (c:Forest) (a:List Note) (b:Int):Option zBY:=some (⟨c,a,b⟩:zBY)
theorem zDR {fu:Nat} {c:Forest} {a:List Note} {b:Int}:DD (zAn fu c a b) 138 [.agg (zAE c),.sl 9 false (a.map zBI),Z b] fun r=>.agg (zMu r):=by
 exact fcI Tryz.func138 U (A [9,30,3,31,6,0,93,20,12,74])
def zIN (fu:Nat) (a:Forest) (b:Int):Option (Option (Bs×Int)):=bnd (zAs fu a) fun c=>cnd (!c) (bnd (zBQ fu [97,115,107,101,100] 1) fun d=>some d) (cnd (decide (b<0)) (bnd (zBQ fu [97,115,107,101,100] 1) fun e=>some e) (cnd (decide (b>=(a.Nodes.length:Int))) (bnd (zBQ fu [97,115,107,101,100] 1) fun f=>some f) (some none)))
theorem zOI {fu:Nat} {a:Forest} {b:Int}:DD (zIN fu a b) 52 [.agg (zAE a),Z b] fun r=>.v (zRa 181 179 r):=by
 refine fcI Tryz.func52 U (A [73,57,6,80,41] (fun c _=>?_) zA7)
 refine pq 2 U (zAV (j:=8) U ?_ ?_)
 ·refine A [110,65,9,41] (fun d _=>?_) zB4
  exact A [57,8]
 ·refine pq 4 U (zAV (j:=12) U ?_ ?_)
  ·refine A [106,65,9,41] (fun e _=>?_) zB4
   exact A [57,8]
  ·refine A [3,35,2,0,10,2,67,59,9,41] (fun f _=>?_) zB4
   exact A [57,8]
def zFk (fu:Nat) (d b:Int) (a:List (Node×Bool)) (l4:List Note):Option ((Option (Bs×Int))×(List (Node×Bool))×(List Note)):=bnd (idx a b) fun f=>cnd (f.1.Parent==(-1)) (bnd (zBQ fu [111,117,116] 6) fun e=>some (e,a,l4)) (bnd (zDi fu b d a l4) fun c=>some (none,c.1,c.2))
theorem zQD {fu:Nat} {b c:Int} {d:List (Node×Bool)} {l4:List Note}:FF (zFk fu b c d l4) 53 [.loc 900000 0,.loc 900001 0] [(900000,.box 131 [.own 900002,Z b,.own 900003]),(900001,.box 3 [Z c]),(900002,.tre 77 10 6 3 (d.map nB)),(900003,.arr 192 9 (l4.map zBI))] [900000,900001,900002] (fun r=>.v (zRa 181 179 r.1)) fun r=>[(900000,.box 131 [.own 900002,Z b,.own 900003]),(900001,.box 3 [Z c]),(900002,.tre 77 10 6 3 (r.2.1.map nB)),(900003,.arr 192 9 (r.2.2.map zBI))]:=by
 refine fcI Tryz.func53 U (A [75,6,52,2,4,0,1,900000,900001,900002,900003,53,10,0,1,3,7,15,0,63,127,255,511,206] ?_)
 refine vT [16,18,1800005] [20] [] U U (zBS (T:=tab) d (by simp) U U U U U U U U fun e a=>pzq U) (fun _=>U) (fun _=>U) fun e a=>vq 1 U (by kernel_rfl) (vS [22,1800005] [24] [] U U (zEj (T:=tab) (zHe (f:=nB) (zAx a)) U U U U U U U U (pyq U)) U U (A [201,79] ?_))
 refine zAD U ?_ ?_
 ·refine A [9,41] (fun g _=>?_) zB4
  exact A [57,8]
 ·refine A [67,61,43] (fun h _=>?_) zGj [(900000,900000),(900001,900002),(900002,900003)] [900003]
  exact A [0,59]
theorem zQ3 {fu:Nat} {c:Forest} {a:Option (Bs×Int)} {b:Int}:FF (zDC fu (fun (h:Int) (i:(List (Node×Bool))) (j:(List Note))=>zFk fu h b i j) c a) 46 [.agg (zAE c),.v (zRa 181 179 a),.fn (.func 53) [] [.loc 900000 0]] [(900000,.box 3 [Z b])] [900000] (fun r=>.tup [.agg (zAE r.1),.own 2101102,Z r.2.2]) fun r=>[(900000,.box 3 [Z b]),(2101102,.arr 192 9 (r.2.1.map zBI))]:=by
 refine fcI Tryz.func46 U (A [9,30,3,31,6,2,0,80,43] (fun e _=>?_) zHr [(12,2101100),(2070,2101101),(31202,2101102)] [2101100,2101101,2101102])
 refine A [57,6,80] ?_
 refine zFQ Tryz.underlying122 U U U U U U (ns (zAD U ?_ ?_))
 ·refine A [14,2,43] (fun d _=>?_) zQD [(900000,2101100),(900001,900000),(900002,2101101),(900003,2101102)] [2101102]
  refine A [57,6,80] ?_
  refine zFQ Tryz.underlying122 U U U U U U (ns (zAD U ?_ ?_))
  ·refine A [6,52,3,3,1,3,6,6,3,900000,53,6,0,0,2,7,15,31,202] ?_
   exact vT [40] [42] [] U U (pk (zL4 fu d.1) U U fun f _=>pzq U) (fun _=>U) (fun _=>U) fun f _=>A [84,90,8]
  ·refine A [68,52,2,5,6,9,2101100,2101101,2101102,6,900000,60,66,79] ?_
   exact zDa 2101101 (nB) Prod.fst zAZ d.2.1 (fun _=>U) (fun _=>U) U U U rN
 ·refine A [68,80] ?_
  refine zFQ Tryz.underlying122 U U U U U U (ns (zAD U ?_ ?_))
  ·refine A [6,52,3,3,1,3,6,6,3,900000,53,6,0,0,2,7,15,31,202] ?_
   exact vT [40] [42] [] U U (pk (zL4 fu a) U U fun g _=>pzq U) (fun _=>U) (fun _=>U) fun g _=>A [84,90,8]
  ·refine A [68,52,2,5,6,9,2101100,2101101,2101102,6,900000,60,66,79] ?_
   exact zDa 2101101 (nB) Prod.fst zAZ e.2.2.1 (fun _=>U) (fun _=>U) U U U rN
def zEG (fu:Nat) (b:Forest) (c:Int):Option (Forest×(List Note)×Int):=bnd (zIN fu b c) fun d=>bnd (zDC fu (fun (e:Int) (f:(List (Node×Bool))) (g:(List Note))=>zFk fu e c f g) b d) fun a=>some (a.1,a.2.1,a.2.2)
theorem zKO {fu:Nat} {a:Forest} {b:Int}:FF (zEG fu a b) 20 [.agg (zAE a),Z b] [] [] (fun r=>.tup [.agg (zAE r.1),.own 2120,Z r.2.2]) fun r=>[(2120,.arr 192 9 (r.2.1.map zBI))]:=by
 refine fcI Tryz.func20 U (A [73,30,3,31,4,2,0,6,52,3,3,2,3,4,4,3,2,53,12,0,0,0,6,0,31,63,63,63,511,1023,2047,203,54,2,1,16,18,20] (fun c _=>?_) zOI)
 refine A [201,55,4,2,7,14,20,22,24,4241] (fun d _=>?_) zQ3 [(900000,3),(2101102,2120)] [2120]
 exact A [203,50,3,1,8,9,26,9,202,79,8]
def zFd (fu:Nat) (l1:zAk) (a:Int):Option Bool:=bnd (zAe fu l1 l1.p) fun b=>cnd (b != 2) (bnd (zEL fu l1.Forest a l1.p) fun c=>some (!c)) (some false)
theorem zNs {fu:Nat} {l1:zAk} {a:Int}:DD (zFd fu l1 a) 260 [.agg (zIg l1),Z a] fun r=>Y r:=by
 refine fcI Tryz.func260 U (A [73,57,93,41] (fun b _=>?_) zCs)
 refine A [2,27,10,2,109,74,105,41] (fun c _=>?_) zON
 exact A [3,74]
def zHS (fu:Nat) (c:Forest) (d e a:Int) (g:Unit):Option Int:=bnd (zC7 fu (⟨c,e,a,a⟩:zAk) d) fun b=>cnd (a==(-1)) (cnd (b==0) (some 6) (bnd (zFd fu (⟨c,e,a,a⟩:zAk) d) fun f=>cnd f (some 6) (some b))) (some b)
def zEO (fu:Nat) (b:Forest) (c d a:Int):Option Int:=bnd (zEP fu b [c,d]) fun e=>cnd (!e) (some 1) (cnd (a != (-1)) (bnd (zEP fu b [a]) fun f=>cnd (!f) (some 1) ((zHS fu b c d a) ())) ((zHS fu b c d a) ()))
theorem zTl {fu:Nat} {e:Forest} {c d a:Int}:DD (zEO fu e c d a) 206 [.agg (zAE e),Z c,Z d,Z a] fun r=>Z r:=by
 refine fcI Tryz.func206 U (A [9,30,4,57,6,9] ?_)
 refine zM7 (zHS fu e c d a) (fun (_:Unit)=>[(1,Z c),(2,Z d),(3,Z a),(4,.loc 4 0)]) (fun (_:Unit)=>[(4,.box 24 (zAE e))]) ?_ fun b=>?_
 ·rintro _
  refine A [7,76,20,31,9,12,0,99] (fun h _=>?_) zGs
  refine A [57,6,93,27,38,6,108,11,24,67,62,8,3,26,41,2,105,83,2,41] (fun i _=>?_) zNs
  exact A [2,0,5,1,59,67,62,8]
 ·refine pq 3 U (pl ([c,d].map zAB) 14 U U U U U U (A [33,14,41] (fun f _=>?_) zGZ))
  refine A [2,26,17,2,110,83,3] ?_
  refine zAV (j:=20) U ?_ ?_
  ·refine pq 2 U (pl ([a].map zAB) 23 U U U U U U (A [33,23,41] (fun g _=>?_) zGZ))
   exact A [3,0,5,1,59,4,45] (b ())
  ·exact A [107,11,24,4,45] (b ())
def zEd (a:Int) (d:List Int):Nat->Int->Option Int
 | 0,_=>none
 | k1+1,t9=>cnd (decide (t9<(d.length:Int))) (bnd (idx d t9) fun b=>cnd (b != a) (some b) (bnd (rng .i64 (t9+1)) fun c=>(zEd a d k1) c)) (some (-1))
def zI4 (fu:Nat) (d:Forest) (a b:Int):Option Int:=bnd (idx d.Nodes a) fun h=>bnd (idx d.Nodes h.Parent) fun c=>bnd (zCX fu c.Kids a) fun g=>bnd (rng .i64 (g+1)) fun e=>bnd (zGF c.Kids e (c.Kids.length:Int)) fun f=>(zEd b f) fu 0
theorem zSS {fu:Nat} {c:Forest} {a b:Int}:DD (zI4 fu c a b) 208 [.agg (zAE c),Z a,Z b] fun r=>Z r:=by
 refine fcI Tryz.func208 U (A [9,30,3,57,6,52,3,1,1,2,3,3,53,12,0,1,0,4,0,28,60,124,255,511,1023,2047,205] ?_)
 refine vT [26,28] [30] [] U U (zE1 (T:=tab) zAZ c.Nodes U U U U U U U fun i _=>pzq U) (fun _=>U) (fun _=>U) fun i _=>vq 2 U (by kernel_rfl) (vT [22,34] [36] [] U U (zE1 (T:=tab) zAZ c.Nodes U U U U U U U fun f _=>pzq U) (fun _=>U) (fun _=>U) fun f _=>A [203,79,6,93,41] (fun l _=>?_) zGr)
 refine A [16] fun j _=>?_
 refine zfM (T:=tab) zAB f.Kids U U U U U U U U fun g _=>A [77,13] ?_
 refine lw (zEd b g) [2,26,27] [] (fun e=>[(28,Z e)]) (fun _=>[]) fu 0 U U ?_
 rintro k e
 refine A [75,10,2,86,59,72,9,36] fun h _=>?_
 refine A [2,0,93,0,5,2,62,8,4,94] fun d _=>?_
 exact A [89] (tx d)
def zGi (fu:Nat) (b:Int) (f:Forest) (c d g:Int) (h:List (Node×Bool)) (i:List Note):Option ((Option (Bs×Int))×(List (Node×Bool))×(List Note)):=bnd (zI4 fu f c d) fun j=>bnd (zDi fu c b h i) fun e=>bnd (zDj fu d g j b e.1 e.2) fun a=>some (none,a.1,a.2)
theorem zPB {fu:Nat} {a:Int} {b:Forest} {c d e:Int} {f:List (Node×Bool)} {g:List Note}:FF (zGi fu a b c d e f g) 207 [.loc 900000 0,.loc 900001 0,.loc 900002 0,.loc 900003 0,.loc 900004 0] [(900000,.box 131 [.own 900005,Z a,.own 900006]),(900001,.box 24 (zAE b)),(900002,.box 3 [Z c]),(900003,.box 3 [Z d]),(900004,.box 3 [Z e]),(900005,.tre 77 10 6 3 (f.map nB)),(900006,.arr 192 9 (g.map zBI))] [900000,900001,900002,900003,900004,900005] (fun r=>.v (zRa 181 179 r.1)) fun r=>[(900000,.box 131 [.own 900005,Z a,.own 900006]),(900001,.box 24 (zAE b)),(900002,.box 3 [Z c]),(900003,.box 3 [Z d]),(900004,.box 3 [Z e]),(900005,.tre 77 10 6 3 (r.2.1.map nB)),(900006,.arr 192 9 (r.2.2.map zBI))]:=by
 refine fcI Tryz.func207 U (A [58,93,41] (fun i _=>?_) zSS)
 refine A [57,61,43] (fun j _=>?_) zGj [(900000,900000),(900001,900005),(900002,900006)] [900006]
 refine A [0,76,43] (fun h _=>?_) zLy [(900000,900000),(900001,900005),(900002,900006)] [900006]
 exact A [0,59]
theorem zQ4 {fu:Nat} {g:Forest} {a:Option (Bs×Int)} {b:Forest} {c d e:Int}:FF (zDC fu (fun (k:Int) (l:(List (Node×Bool))) (m:(List Note))=>zGi fu k b c d e l m) g a) 46 [.agg (zAE g),.v (zRa 181 179 a),.fn (.func 207) [] [.loc 900000 0,.loc 900001 0,.loc 900002 0,.loc 900003 0]] [(900000,.box 24 (zAE b)),(900001,.box 3 [Z c]),(900002,.box 3 [Z d]),(900003,.box 3 [Z e])] [900000,900001,900002,900003] (fun r=>.tup [.agg (zAE r.1),.own 2101102,Z r.2.2]) fun r=>[(900000,.box 24 (zAE b)),(900001,.box 3 [Z c]),(900002,.box 3 [Z d]),(900003,.box 3 [Z e]),(2101102,.arr 192 9 (r.2.1.map zBI))]:=by
 refine fcI Tryz.func46 U (A [9,30,3,31,6,2,0,80,43] (fun i _=>?_) zHr [(12,2101100),(2070,2101101),(31202,2101102)] [2101100,2101101,2101102])
 refine A [57,6,80] ?_
 refine zFQ Tryz.underlying122 U U U U U U (ns (zAD U ?_ ?_))
 ·refine A [14,2,43] (fun h _=>?_) zPB [(900000,2101100),(900001,900000),(900002,900001),(900003,900002),(900004,900003),(900005,2101101),(900006,2101102)] [2101102]
  refine A [57,6,80] ?_
  refine zFQ Tryz.underlying122 U U U U U U (ns (zAD U ?_ ?_))
  ·refine A [6,81,202] ?_
   exact vT [40] [42] [] U U (pk (zL4 fu h.1) U U fun j _=>pzq U) (fun _=>U) (fun _=>U) fun j _=>A [84,90,8]
  ·refine A [78,60,66,79] ?_
   exact zDa 2101101 (nB) Prod.fst zAZ h.2.1 (fun _=>U) (fun _=>U) U U U rN
 ·refine A [68,80] ?_
  refine zFQ Tryz.underlying122 U U U U U U (ns (zAD U ?_ ?_))
  ·refine A [6,81,202] ?_
   exact vT [40] [42] [] U U (pk (zL4 fu a) U U fun f _=>pzq U) (fun _=>U) (fun _=>U) fun f _=>A [84,90,8]
  ·refine A [78,60,66,79] ?_
   exact zDa 2101101 (nB) Prod.fst zAZ i.2.2.1 (fun _=>U) (fun _=>U) U U U rN
def zEc (fu:Nat) (b:Forest) (d e a:Int):Option (Forest×(List Note)×Int):=bnd (zEO fu b d e a) fun f=>bnd (zBQ fu [115,119,97,112] f) fun g=>bnd (zDC fu (fun (h:Int) (i:(List (Node×Bool))) (j:(List Note))=>zGi fu h b a d e i j) b g) fun c=>some (c.1,c.2.1,c.2.2)
theorem zQ1 {fu:Nat} {b:Forest} {c d a:Int}:DD (zEc fu b c d a) 139 [.agg (zAE b),Z c,Z d,Z a] fun r=>.tup [.agg (zAE r.1),.sl 9 false (r.2.1.map zBI),Z r.2.2]:=by
 refine fcI Tryz.func139 U (A [9,30,4,30,5,30,6,30,7,31,8,2,0,6,52,5,5,4,5,6,7,8,8,7,6,5,4,53,15,0,0,0,0,0,30,62,0,255,511,511,511,4095,8191,16383,205,54,4,1,24,26,28,30,32] (fun f _=>?_) zTl)
 refine A [54,1,1,32,34] (fun g _=>?_) zB4
 exact vq 1 U (by kernel_rfl) (vT [9,11,13,15,22,34,36] [38,4381] [2190] U U (tqG (rn:=[(900000,4),(900001,7),(900002,5),(900003,6),(2101102,2190)]) (ks:=[2190]) ⟨zQ4⟩ U U U U U U U U fun e _=>zGf 2190 U U U (pzq U)) (fun _=>U) (fun _=>U) fun e _=>A [203,50,3,1,16,17,40,17,202,79,8])
def zGp (fu:Nat) (b:Forest) (c:Int):Option (Option (Bs×Int)):=bnd (zIN fu b c) fun a=>cnd a.isNone (bnd (idx b.Nodes c) fun e=>cnd (e.Kind != 1) (bnd (zBQ fu [101,108,101,109] 5) fun d=>some d) (some a)) (some a)
theorem zMN {fu:Nat} {a:Forest} {b:Int}:DD (zGp fu a b) 55 [.agg (zAE a),Z b] fun r=>.v (zRa 181 179 r):=by
 refine fcI Tryz.func55 U (A [73,57,99] (fun c _=>?_) zOI)
 refine A [57,6,80] ?_
 refine zFQ Tryz.underlying122 U U U U U U (A [1,27,11,6,108,11,24,67,62,8,3,36] fun e _=>?_)
 refine A [104,0,10,3,67,62,8,9,41] (fun d _=>?_) zB4
 exact A [57,8]
def zKe (fu:Nat) (l1:List Attr) (d a:Bs):Option ((List Attr)×Int):=bnd (zGm fu l1 d) fun b=>bnd (zAf fu l1) fun c=>cnd (b.2.2 != 0) (some (c,b.2.2)) (cnd (decide ((a.length:Int)>200)) (some (c,3)) (cnd (decide (b.2.1>=0)) (bnd (idx c b.2.1) fun e=>some ((c.set (b.2.1).toNat (⟨e.Name,a⟩:Attr)),0)) (cnd ((l1.length:Int)==40) (some (c,3)) (bnd (zDI 32 (c.length+([(⟨b.1,a⟩:Attr)]:List Attr).length)) fun _=>some ((c++[(⟨b.1,a⟩:Attr)]),0)))))
theorem zQu {fu:Nat} {l1:List Attr} {c a:Bs}:DD (zKe fu l1 c a) 57 [.sl 2 false (l1.map zD4),O c,O a] fun r=>.tup [.sl 2 false (r.1.map zD4),Z r.2]:=by
 refine fcI Tryz.func57 U (A [62,99] (fun d _=>?_) zJ2)
 refine A [107,0,80,43] (fun e _=>?_) zBp [(5,2200)] [2200]
 refine A [57,6,13,93,0,5,5,76,0,34,2200,8,76,0,5,5,93,0,34,2200,8,93,0] ?_
 refine zAD U ?_ ?_
 ·refine A [93,38] fun f b=>?_
  exact pq 1 U (zCk (T:=tab) zD4 e f (⟨f.Name,a⟩:Attr) (zAx b) U U U U U U U U U U U U U (A [0,93,0,34,2200,8]))
 ·refine A [80,35,2,0,5,5,93,0,34,2200,8,4,69,93,20] ?_
  exact pl ([(⟨d.1,a⟩:Attr)].map zD4) 49 U U U U U U (pa zD4 e ([(⟨d.1,a⟩:Attr)]:List Attr) U U U U U U U U (zRL _) U U U (A [2,0,34,2200,8]))
def zC4 (fu:Nat) (c:Int) (i:Bs) (g:List Attr) (e:List (Node×Bool)) (f:List Note):Option ((List (Node×Bool))×(List Note)):=bnd (zEH fu i) fun h=>bnd (idx e c) fun j=>bnd (zF2 fu j.1.Attrs i) fun d=>bnd (zF2 fu g i) fun a=>bnd (idx e c) fun b=>cnd d.2 (bnd (zDI 88 (f.length+([(⟨4,c,0,0,h,d.2,a.2,d.1,a.1⟩:Note)]:List Note).length)) fun _=>some ((e.set (c).toNat (({b.1 with Attrs:=g}:Node),b.2)),(f++[(⟨4,c,0,0,h,d.2,a.2,d.1,a.1⟩:Note)]))) (cnd a.2 (bnd (zDI 88 (f.length+([(⟨4,c,0,0,h,d.2,a.2,d.1,a.1⟩:Note)]:List Note).length)) fun _=>some ((e.set (c).toNat (({b.1 with Attrs:=g}:Node),b.2)),(f++[(⟨4,c,0,0,h,d.2,a.2,d.1,a.1⟩:Note)]))) (some ((e.set (c).toNat (({b.1 with Attrs:=g}:Node),b.2)),f)))
theorem zGq {fu:Nat} {d:Int} {n:Bs} {l:List Attr} {m:Int} {g:List (Node×Bool)} {h:List Note}:FF (zC4 fu d n l g h) 58 [.loc 900000 0,Z d,O n,.sl 2 false (l.map zD4)] [(900000,.box 131 [.own 900001,Z m,.own 900002]),(900001,.tre 77 10 6 3 (g.map nB)),(900002,.arr 192 9 (h.map zBI))] [900000,900001] (fun _=>.tup []) fun r=>[(900000,.box 131 [.own 900001,Z m,.own 900002]),(900001,.tre 77 10 6 3 (r.1.map nB)),(900002,.arr 192 9 (r.2.map zBI))]:=by
 refine fcI Tryz.func58 U (A [99] (fun i _=>?_) zHL)
 refine A [20,31,8,12,0,9,106] ?_
 refine zBS (T:=tab) g (by simp) U U U U U U U U fun o k=>pq 1 U (zEj (T:=tab) (zHe (f:=nB) (zAx k)) U U U U U U U U (A [1,41] (fun b _=>?_) zHl))
 refine A [104,12,1,12,0,99] (fun a _=>?_) zHl
 refine A [104,12,1,12,0,9,107] ?_
 refine zBS (T:=tab) g (by simp) U U U U U U U U fun c e=>pq 1 U (zKM (T:=tab) (nB) g c ((({c.1 with Attrs:=l}:Node),c.2):Node×Bool) (zAx e) U U U U U U U U U U U U U U U (A [0,93] ?_))
 refine zAV (j:=48) U ?_ ?_
 ·refine A [3,65,52,2,4,0,8,8,900000,900001,900002,53,11,0,0,2,6,14,0,32,126,255,511,1023,206] ?_
  refine vS [114] [116,117] [58] U U (pl ([(⟨4,d,0,0,i,b.2,a.2,b.1,a.1⟩:Note)].map zBI) 58 U U U U U U (pyq U)) U U (vU [112,116,117,1800001,1800005] [118,112,1800001,1800005] [900002] U U (pa zBI h ([(⟨4,d,0,0,i,b.2,a.2,b.1,a.1⟩:Note)]:List Note) U U U U U U U U (zKt _) U U U (pyq U)) U U fun _ _=>A [202,50,4,1,118,122,1800001,1800005,1800001,19] ?_)
  exact zKZ (T:=tab) U U U ⟨U,U⟩ ⟨U,U,U,trivial⟩ U
 ·refine A [3,0] ?_
  refine zAD U ?_ ?_
  ·refine A [52,2,4,0,8,8,900000,900001,900002,53,11,0,0,2,6,14,0,32,126,255,511,1023,206] ?_
   refine vS [114] [116,117] [58] U U (pl ([(⟨4,d,0,0,i,b.2,a.2,b.1,a.1⟩:Note)].map zBI) 58 U U U U U U (pyq U)) U U (vU [112,116,117,1800001,1800005] [118,112,1800001,1800005] [900002] U U (pa zBI h ([(⟨4,d,0,0,i,b.2,a.2,b.1,a.1⟩:Note)]:List Note) U U U U U U U U (zKt _) U U U (pyq U)) U U fun _ _=>A [202,50,4,1,118,122,1800001,1800005,1800001,19] ?_)
   exact zKZ (T:=tab) U U U ⟨U,U⟩ ⟨U,U,U,trivial⟩ U
  ·exact zXL (zKZ (T:=tab) U U U ⟨U,U⟩ ⟨U,U,U,trivial⟩ U)
def zKA (fu:Nat) (d:Int) (e g:Bs) (b:List (Node×Bool)) (f:List Note):Option ((Option (Bs×Int))×(List (Node×Bool))×(List Note)):=bnd (idx b d) fun i=>bnd (zKe fu i.1.Attrs e g) fun c=>cnd (c.2 != 0) (bnd (zBQ fu [115,101,116] c.2) fun h=>some (h,b,f)) (bnd (zC4 fu d e c.1 b f) fun a=>some (none,a.1,a.2))
theorem zTf {fu:Nat} {g b:Int} {c d:Bs} {e:List (Node×Bool)} {h:List Note}:FF (zKA fu b c d e h) 56 [.loc 900000 0,.loc 900001 0,.loc 900002 0,.loc 900003 0] [(900000,.box 131 [.own 900004,Z g,.own 900005]),(900001,.box 3 [Z b]),(900002,.box 9 [O c]),(900003,.box 9 [O d]),(900004,.tre 77 10 6 3 (e.map nB)),(900005,.arr 192 9 (h.map zBI))] [900000,900001,900002,900003,900004] (fun r=>.v (zRa 181 179 r.1)) fun r=>[(900000,.box 131 [.own 900004,Z g,.own 900005]),(900001,.box 3 [Z b]),(900002,.box 9 [O c]),(900003,.box 9 [O d]),(900004,.tre 77 10 6 3 (r.2.1.map nB)),(900005,.arr 192 9 (r.2.2.map zBI))]:=by
 refine fcI Tryz.func56 U (A [75,52,4,6,0,1,2,3,900000,900001,900002,900003,900004,900005,53,17,0,1,3,7,15,0,63,127,255,0,0,2047,4095,8191,8191,16383,65535,206] ?_)
 refine vT [26,28,1800009] [30] [] U U (zBS (T:=tab) e (by simp) U U U U U U U U fun j a=>pzq U) (fun _=>U) (fun _=>U) fun j a=>vq 1 U (by kernel_rfl) (vS [32,1800009] [34] [] U U (zEj (T:=tab) (zHe (f:=nB) (zAx a)) U U U U U U U U (pyq U)) U U (A [202,54,3,1,34,36,38,40] (fun k _=>?_) zQu))
 refine A [205,79,6,62] ?_
 refine zAD U ?_ ?_
 ·refine A [80,41] (fun l _=>?_) zB4
  exact A [57,8]
 ·refine A [67,76,43] (fun i _=>?_) zGq [(900000,900000),(900001,900004),(900002,900005)] [900005]
  exact A [0,59]
def zBP (fu:Nat) (g:(List (Node×Bool))->(List Note)->Option ((Option (Bs×Int))×(List (Node×Bool))×(List Note))) (d:Forest) (a:Option (Bs×Int)):Option (Forest×(List Note)×Int):=bnd (zKj fu d) fun b=>cnd a.isNone (bnd (g b.2.2.1 b.2.2.2) fun c=>cnd c.1.isSome (bnd (zcj fu c.1) fun e=>some (d,([]:List Note),e)) (some ((⟨(c.2.1.map Prod.fst),b.2.1⟩:Forest),c.2.2,0))) (cnd a.isSome (bnd (zcj fu a) fun f=>some (d,([]:List Note),f)) (some ((⟨(b.2.2.1.map Prod.fst),b.2.1⟩:Forest),b.2.2.2,0)))
theorem zQ5 {fu:Nat} {e:Forest} {a:Option (Bs×Int)} {b:Int} {c d:Bs}:FF (zBP fu (fun (j:(List (Node×Bool))) (k:(List Note))=>zKA fu b c d j k) e a) 46 [.agg (zAE e),.v (zRa 181 179 a),.fn (.func 56) [] [.loc 900000 0,.loc 900001 0,.loc 900002 0]] [(900000,.box 3 [Z b]),(900001,.box 9 [O c]),(900002,.box 9 [O d])] [900000,900001,900002] (fun r=>.tup [.agg (zAE r.1),.own 2101102,Z r.2.2]) fun r=>[(900000,.box 3 [Z b]),(900001,.box 9 [O c]),(900002,.box 9 [O d]),(2101102,.arr 192 9 (r.2.1.map zBI))]:=by
 refine fcI Tryz.func46 U (A [9,30,3,31,6,2,0,80,43] (fun g _=>?_) zHr [(12,2101100),(2070,2101101),(31202,2101102)] [2101100,2101101,2101102])
 refine A [57,6,80] ?_
 refine zFQ Tryz.underlying122 U U U U U U (ns (zAD U ?_ ?_))
 ·refine A [14,2,43] (fun f _=>?_) zTf [(900000,2101100),(900001,900000),(900002,900001),(900003,900002),(900004,2101101),(900005,2101102)] [2101102]
  refine A [57,6,80] ?_
  refine zFQ Tryz.underlying122 U U U U U U (ns (zAD U ?_ ?_))
  ·refine A [6,91,202] ?_
   exact vT [40] [42] [] U U (pk (zL4 fu f.1) U U fun h _=>pzq U) (fun _=>U) (fun _=>U) fun h _=>A [84,90,8]
  ·refine A [87,60,66,79] ?_
   exact zDa 2101101 (nB) Prod.fst zAZ f.2.1 (fun _=>U) (fun _=>U) U U U rN
 ·refine A [68,80] ?_
  refine zFQ Tryz.underlying122 U U U U U U (ns (zAD U ?_ ?_))
  ·refine A [6,91,202] ?_
   exact vT [40] [42] [] U U (pk (zL4 fu a) U U fun i _=>pzq U) (fun _=>U) (fun _=>U) fun i _=>A [84,90,8]
  ·refine A [87,60,66,79] ?_
   exact zDa 2101101 (nB) Prod.fst zAZ g.2.2.1 (fun _=>U) (fun _=>U) U U U rN
def zKi (fu:Nat) (c:Forest) (d:Int) (f a:Bs):Option (Forest×(List Note)×Int):=bnd (zGp fu c d) fun e=>bnd (zBP fu (fun (g:(List (Node×Bool))) (h:(List Note))=>zKA fu d f a g h) c e) fun b=>some (b.1,b.2.1,b.2.2)
theorem zWP {fu:Nat} {b:Forest} {c:Int} {d a:Bs}:DD (zKi fu b c d a) 21 [.agg (zAE b),Z c,O d,O a] fun r=>.tup [.agg (zAE r.1),.sl 9 false (r.2.1.map zBI),Z r.2.2]:=by
 refine fcI Tryz.func21 U (A [9,30,4,30,5,30,6,30,7,31,8,2,0,6,52,5,5,4,5,6,7,8,8,7,6,5,4,53,12,0,0,0,6,0,31,63,63,63,511,1023,2047,203,54,2,1,24,26,28] (fun f _=>?_) zMN)
 exact vq 1 U (by kernel_rfl) (vT [11,13,15,22,28,30] [32,4321] [2160] U U (tqG (rn:=[(900000,5),(900001,6),(900002,7),(2101102,2160)]) (ks:=[2160]) ⟨zQ5⟩ U U U U U U U U fun e _=>zGf 2160 U U U (pzq U)) (fun _=>U) (fun _=>U) fun e _=>A [203,50,3,1,16,17,34,17,202,79,8])
def zDO (_fu:Nat) (b j2:Int) (a:List Attr):Option (List Attr):=bnd (cut3 a.length b j2 (a.length:Int)) fun _=>cnd (b==j2) (some a) (bnd (zNZ a.length 0 b) fun _=>bnd (zNZ a.length j2 (a.length:Int)) fun _=>bnd (delB a.length (b).toNat (j2).toNat ((a.length:Int)).toNat) fun _=>bnd (zNZ (zOf a (b).toNat (j2).toNat).length ((((b).toNat+(((a.length:Int)).toNat - (j2).toNat)):Nat):Int) (a.length:Int)) fun _=>bnd (ze8 (zOf a (b).toNat (j2).toNat).length (((((b).toNat+(((a.length:Int)).toNat - (j2).toNat)):Nat):Int)).toNat ((a.length:Int)).toNat) fun _=>bnd (zZl (zPw (zOf a (b).toNat (j2).toNat) (((((b).toNat+(((a.length:Int)).toNat - (j2).toNat)):Nat):Int)).toNat ((⟨[],[]⟩:Attr):Attr)).length ((b).toNat+(((a.length:Int)).toNat - (j2).toNat))) fun _=>some ((zPw (zOf a (b).toNat (j2).toNat) (((((b).toNat+(((a.length:Int)).toNat - (j2).toNat)):Nat):Int)).toNat ((⟨[],[]⟩:Attr):Attr)).take ((b).toNat+(((a.length:Int)).toNat - (j2).toNat))))
theorem zKn {fu:Nat} {b j2:Int} {a:List Attr}:FF (zDO fu b j2 a) 261 [.own 900000,Z b,Z j2] [(900000,.arr 198 2 (a.map zD4))] [] (fun _=>.own 900000) fun r=>[(900000,.arr 198 2 (r.map zD4))]:=by
 refine fcI Tryz.func261 U (A [58,76,39] ?_)
 refine zbw (T:=tab) (L:=a.length) U U U U U U U U (by simp) U U (A [0,6,93,0,5,2,62,8,67,80,39,57,6,52,4,1,0,1,2,7,900000,53,8,0,0,3,0,0,24,63,127,202] ?_)
 refine vU [40,42,1800001] [44] [] U U (zOB (T:=tab) (L:=a.length) (.inl U) U U U U (by simp) U U U U U (pyq U)) U U fun _ _=>vq 2 U (by kernel_rfl) (vU [46,48,1800001] [50] [] U U (zOB (T:=tab) (L:=a.length) (.inl U) U U U U (by simp) U U U U U (pyq U)) U U fun _ _=>vU [44,50,1800001] [52,1800001] [] U U (zP8 (T:=tab) zD4 a U U U U U U U U U (zRL _) U U U (pyq U)) U U fun _ _=>A [201,79,61] ?_)
 refine zVn (T:=tab) U U U U U U U U U (pq 1 U (zOB (T:=tab) (L:=(zOf a (b).toNat (j2).toNat).length) (.inr ⟨_,U⟩) U U U U (by simp) U U U U U (zN7 (T:=tab) zD4 (zOf a (b).toNat (j2).toNat) ((⟨[],[]⟩:Attr):Attr) U U U U U U U U U U U U U U (A [0,62] ?_))))
 exact zVq 6 zD4 (zPw (zOf a (b).toNat (j2).toNat) (((((b).toNat+(((a.length:Int)).toNat - (j2).toNat)):Nat):Int)).toNat ((⟨[],[]⟩:Attr):Attr)) U U U U U rN
def zHD (fu:Nat) (l1:List Attr) (d:Bs):Option ((List Attr)×Bool):=bnd (zGm fu l1 d) fun a=>bnd (zAf fu l1) fun b=>cnd (decide (a.2.1<0)) (some (b,false)) (bnd (rng .i64 (a.2.1+1)) fun c=>bnd (zDO fu a.2.1 c b) fun e=>some (e,true))
theorem zNb {fu:Nat} {l1:List Attr} {a:Bs}:DD (zHD fu l1 a) 210 [.sl 2 false (l1.map zD4),O a] fun r=>.tup [.sl 2 false (r.1.map zD4),Y r.2]:=by
 refine fcI Tryz.func210 U (A [62,99] (fun c _=>?_) zJ2)
 refine A [107,0,80,43] (fun d _=>?_) zBp [(5,2180)] [2180]
 refine A [57,6,62,5,5,93,0,34,2180,8,67,93,16] fun b _=>?_
 refine A [43] (fun e _=>?_) zKn [(900000,2180)] [2180]
 exact A [2,0,34,2180,8]
def zIB (fu:Nat) (b:Bs) (c:Int) (l4:List (Node×Bool)) (d:List Note):Option ((Option (Bs×Int))×(List (Node×Bool))×(List Note)):=bnd (zF5 fu b) fun e=>cnd (e.2 != 0) (bnd (zBQ fu [117,110,115,101,116] e.2) fun f=>some (f,l4,d)) (bnd (idx l4 c) fun h=>bnd (zHD fu h.1.Attrs b) fun g=>bnd (zC4 fu c b g.1 l4 d) fun a=>some (none,a.1,a.2))
theorem zQ2 {fu:Nat} {d:Int} {b:Bs} {c:Int} {l4:List (Node×Bool)} {e:List Note}:FF (zIB fu b c l4 e) 209 [.loc 900000 0,.loc 900001 0,.loc 900002 0] [(900000,.box 131 [.own 900003,Z d,.own 900004]),(900001,.box 9 [O b]),(900002,.box 3 [Z c]),(900003,.tre 77 10 6 3 (l4.map nB)),(900004,.arr 192 9 (e.map zBI))] [900000,900001,900002,900003] (fun r=>.v (zRa 181 179 r.1)) fun r=>[(900000,.box 131 [.own 900003,Z d,.own 900004]),(900001,.box 9 [O b]),(900002,.box 3 [Z c]),(900003,.tre 77 10 6 3 (r.2.1.map nB)),(900004,.arr 192 9 (r.2.2.map zBI))]:=by
 refine fcI Tryz.func209 U (A [75,80,41] (fun i _=>?_) zHs)
 refine A [105,0,62] ?_
 refine zAD U ?_ ?_
 ·refine A [80,41] (fun j _=>?_) zB4
  exact A [57,8]
 ·refine A [68,52,3,5,0,1,2,900000,900001,900002,900003,900004,53,16,0,1,3,7,15,0,63,127,255,0,1023,2047,4095,4095,8191,32767,206] ?_
  refine vT [46,48,1800007] [50] [] U U (zBS (T:=tab) l4 (by simp) U U U U U U U U fun h a=>pzq U) (fun _=>U) (fun _=>U) fun h a=>vq 1 U (by kernel_rfl) (vS [52,1800007] [54] [] U U (zEj (T:=tab) (zHe (f:=nB) (zAx a)) U U U U U U U U (pyq U)) U U (A [201,54,2,1,54,56,58] (fun k _=>?_) zNb))
  refine A [205,79,76,43] (fun g _=>?_) zGq [(900000,900000),(900001,900003),(900002,900004)] [900004]
  exact A [0,59]
theorem zQ6 {fu:Nat} {d:Forest} {a:Option (Bs×Int)} {b:Bs} {c:Int}:FF (zBP fu (fun (i:(List (Node×Bool))) (j:(List Note))=>zIB fu b c i j) d a) 46 [.agg (zAE d),.v (zRa 181 179 a),.fn (.func 209) [] [.loc 900000 0,.loc 900001 0]] [(900000,.box 9 [O b]),(900001,.box 3 [Z c])] [900000,900001] (fun r=>.tup [.agg (zAE r.1),.own 2101102,Z r.2.2]) fun r=>[(900000,.box 9 [O b]),(900001,.box 3 [Z c]),(2101102,.arr 192 9 (r.2.1.map zBI))]:=by
 refine fcI Tryz.func46 U (A [9,30,3,31,6,2,0,80,43] (fun f _=>?_) zHr [(12,2101100),(2070,2101101),(31202,2101102)] [2101100,2101101,2101102])
 refine A [57,6,80] ?_
 refine zFQ Tryz.underlying122 U U U U U U (ns (zAD U ?_ ?_))
 ·refine A [14,2,43] (fun e _=>?_) zQ2 [(900000,2101100),(900001,900000),(900002,900001),(900003,2101101),(900004,2101102)] [2101102]
  refine A [57,6,80] ?_
  refine zFQ Tryz.underlying122 U U U U U U (ns (zAD U ?_ ?_))
  ·refine A [6,52,3,4,1,3,6,6,3,900000,900001,53,6,0,0,2,7,15,31,202] ?_
   exact vT [40] [42] [] U U (pk (zL4 fu e.1) U U fun g _=>pzq U) (fun _=>U) (fun _=>U) fun g _=>A [84,90,8]
  ·refine A [68,52,2,6,6,9,2101100,2101101,2101102,6,900000,900001,60,66,79] ?_
   exact zDa 2101101 (nB) Prod.fst zAZ e.2.1 (fun _=>U) (fun _=>U) U U U rN
 ·refine A [68,80] ?_
  refine zFQ Tryz.underlying122 U U U U U U (ns (zAD U ?_ ?_))
  ·refine A [6,52,3,4,1,3,6,6,3,900000,900001,53,6,0,0,2,7,15,31,202] ?_
   exact vT [40] [42] [] U U (pk (zL4 fu a) U U fun h _=>pzq U) (fun _=>U) (fun _=>U) fun h _=>A [84,90,8]
  ·refine A [68,52,2,6,6,9,2101100,2101101,2101102,6,900000,900001,60,66,79] ?_
   exact zDa 2101101 (nB) Prod.fst zAZ f.2.2.1 (fun _=>U) (fun _=>U) U U U rN
def zIM (fu:Nat) (b:Forest) (c:Int) (e:Bs):Option (Forest×(List Note)×Int):=bnd (zGp fu b c) fun d=>bnd (zBP fu (fun (f:(List (Node×Bool))) (g:(List Note))=>zIB fu e c f g) b d) fun a=>some (a.1,a.2.1,a.2.2)
theorem zTg {fu:Nat} {a:Forest} {b:Int} {c:Bs}:DD (zIM fu a b c) 140 [.agg (zAE a),Z b,O c] fun r=>.tup [.agg (zAE r.1),.sl 9 false (r.2.1.map zBI),Z r.2.2]:=by
 refine fcI Tryz.func140 U (A [9,30,3,30,4,30,5,31,6,2,0,6,52,4,4,3,4,5,6,6,5,4,3,53,12,0,0,0,6,0,31,63,63,63,511,1023,2047,203,54,2,1,20,22,24] (fun e _=>?_) zMN)
 exact vq 1 U (by kernel_rfl) (vT [9,11,18,24,26] [28,4281] [2140] U U (tqG (rn:=[(900000,5),(900001,4),(2101102,2140)]) (ks:=[2140]) ⟨zQ6⟩ U U U U U U U U fun d _=>zGf 2140 U U U (pzq U)) (fun _=>U) (fun _=>U) fun d _=>A [203,50,3,1,12,13,30,13,202,79,8])
def zFW (fu:Nat) (l1:List Attr) (c:Bs) (r4:Bs×Int×Int) (a:Bool):Option ((List Attr)×Bool×Int):=cnd (r4.2.2 != 0) (bnd (zAf fu l1) fun d=>some (d,false,r4.2.2)) (cnd (a==(decide (r4.2.1>=0))) (bnd (zAf fu l1) fun e=>some (e,(decide (r4.2.1>=0)),0)) (cnd a (bnd (zKe fu l1 c []) fun b=>some (b.1,(b.2==0),b.2)) (bnd (zHD fu l1 c) fun f=>some (f.1,false,0))))
def zI2 (fu:Nat) (l1:List Attr) (b:Bs) (a:Int):Option ((List Attr)×Bool×Int):=bnd (zGm fu l1 b) fun c=>cnd (decide (a>0)) ((zFW fu l1 b c) true) (cnd (a==0) ((zFW fu l1 b c) (!(decide (c.2.1>=0)))) ((zFW fu l1 b c) false))
theorem zSP {fu:Nat} {l1:List Attr} {d:Bs} {b:Int}:DD (zI2 fu l1 d b) 212 [.sl 2 false (l1.map zD4),O d,Z b] fun r=>.tup [.sl 2 false (r.1.map zD4),Y r.2.1,Z r.2.2]:=by
 refine fcI Tryz.func212 U (A [93,0,99] (fun e _=>?_) zJ2)
 refine A [107,0,93,0,9] ?_
 refine zM8 (zFW fu l1 d e) (fun (a:Bool)=>[(0,.sl 2 false (l1.map zD4)),(1,O d),(11,Z e.2.2),(12,Y (decide (e.2.1>=0))),(13,Y a)]) (fun (a:Bool)=>[]) ?_ fun c=>?_
 ·rintro a
  refine A [7,6,13,93,0] ?_
  refine zAD U ?_ ?_
  ·refine A [80,43] (fun f _=>?_) zBp [(5,2410)] [2410]
   exact A [104,0,34,2410,8]
  ·refine A [76,0] ?_
   refine zAD U ?_ ?_
   ·refine A [80,43] (fun g _=>?_) zBp [(5,2480)] [2480]
    exact A [104,0,34,2480,8]
   ·refine A [62] ?_
    refine zAD U ?_ ?_
    ·refine A [99] (fun h _=>?_) zQu
     exact A [105,0,9,107,74]
    ·refine A [4,69,99] (fun i _=>?_) zNb
     exact A [105,0,76,74]
 ·refine pq 3 U (zAV (j:=29) U ?_ ?_)
  ·exact A [108,11,45] (c true)
  ·refine pq 3 U (zAV (j:=32) U ?_ ?_)
   ·exact A [105,11,45] (c (!(decide (e.2.1>=0))))
   ·exact A [105,11,45] (c false)
def zHJ (fu:Nat) (d:Int) (e:Bs) (h:Int) (b:List (Node×Bool)) (f:List Note):Option ((Option (Bs×Int))×(List (Node×Bool))×(List Note)):=bnd (idx b d) fun j=>bnd (zF2 fu j.1.Attrs e) fun i=>bnd (idx b d) fun k=>bnd (zI2 fu k.1.Attrs e h) fun a=>cnd (a.2.2 != 0) (bnd (zBQ fu [116,111,103,103,108,101] a.2.2) fun g=>some (g,b,f)) (cnd (!(i.2==a.2.1)) (bnd (zC4 fu d e a.1 b f) fun c=>some (none,c.1,c.2)) (some (none,b,f)))
theorem zQE {fu:Nat} {h d:Int} {e:Bs} {g:Int} {c:List (Node×Bool)} {i:List Note}:FF (zHJ fu d e g c i) 211 [.loc 900000 0,.loc 900001 0,.loc 900002 0,.loc 900003 0] [(900000,.box 131 [.own 900004,Z h,.own 900005]),(900001,.box 3 [Z d]),(900002,.box 9 [O e]),(900003,.box 3 [Z g]),(900004,.tre 77 10 6 3 (c.map nB)),(900005,.arr 192 9 (i.map zBI))] [900000,900001,900002,900003,900004] (fun r=>.v (zRa 181 179 r.1)) fun r=>[(900000,.box 131 [.own 900004,Z h,.own 900005]),(900001,.box 3 [Z d]),(900002,.box 9 [O e]),(900003,.box 3 [Z g]),(900004,.tre 77 10 6 3 (r.2.1.map nB)),(900005,.arr 192 9 (r.2.2.map zBI))]:=by
 refine fcI Tryz.func211 U (A [75,52,4,6,0,1,2,3,900000,900001,900002,900003,900004,900005,53,16,0,1,3,7,15,0,63,127,255,0,1023,2047,4095,4095,8191,32767,206] ?_)
 refine vT [32,34,1800009] [36] [] U U (zBS (T:=tab) c (by simp) U U U U U U U U fun m a=>pzq U) (fun _=>U) (fun _=>U) fun m a=>vq 1 U (by kernel_rfl) (vS [38,1800009] [40] [] U U (zEj (T:=tab) (zHe (f:=nB) (zAx a)) U U U U U U U U (pyq U)) U U (A [201,54,2,1,40,42,44] (fun o _=>?_) zHl))
 refine A [205,79,6,52,5,6,0,1,2,3,7,900000,900001,900002,900003,900004,900005,53,19,0,1,3,7,15,0,63,127,255,0,0,2047,4095,8191,8191,8191,16383,98303,262143,206] ?_
 refine vT [60,62,1800009] [64] [] U U (zBS (T:=tab) c (by simp) U U U U U U U U fun n b=>pzq U) (fun _=>U) (fun _=>U) fun n b=>vq 1 U (by kernel_rfl) (vS [66,1800009] [68] [] U U (zEj (T:=tab) (zHe (f:=nB) (zAx b)) U U U U U U U U (pyq U)) U U (A [202,54,3,1,68,70,72,74] (fun j _=>?_) zSP))
 refine A [207,79,6,62] ?_
 refine zAD U ?_ ?_
 ·refine A [80,41] (fun k _=>?_) zB4
  exact A [57,8]
 ·refine A [68,93,0,10,2,67,59,14,104,43] (fun l _=>?_) zGq [(900000,900000),(900001,900004),(900002,900005)] [900005]
  exact A [0,59]
theorem zQ7 {fu:Nat} {e:Forest} {a:Option (Bs×Int)} {b:Int} {c:Bs} {d:Int}:FF (zBP fu (fun (j:(List (Node×Bool))) (k:(List Note))=>zHJ fu b c d j k) e a) 46 [.agg (zAE e),.v (zRa 181 179 a),.fn (.func 211) [] [.loc 900000 0,.loc 900001 0,.loc 900002 0]] [(900000,.box 3 [Z b]),(900001,.box 9 [O c]),(900002,.box 3 [Z d])] [900000,900001,900002] (fun r=>.tup [.agg (zAE r.1),.own 2101102,Z r.2.2]) fun r=>[(900000,.box 3 [Z b]),(900001,.box 9 [O c]),(900002,.box 3 [Z d]),(2101102,.arr 192 9 (r.2.1.map zBI))]:=by
 refine fcI Tryz.func46 U (A [9,30,3,31,6,2,0,80,43] (fun g _=>?_) zHr [(12,2101100),(2070,2101101),(31202,2101102)] [2101100,2101101,2101102])
 refine A [57,6,80] ?_
 refine zFQ Tryz.underlying122 U U U U U U (ns (zAD U ?_ ?_))
 ·refine A [14,2,43] (fun f _=>?_) zQE [(900000,2101100),(900001,900000),(900002,900001),(900003,900002),(900004,2101101),(900005,2101102)] [2101102]
  refine A [57,6,80] ?_
  refine zFQ Tryz.underlying122 U U U U U U (ns (zAD U ?_ ?_))
  ·refine A [6,91,202] ?_
   exact vT [40] [42] [] U U (pk (zL4 fu f.1) U U fun h _=>pzq U) (fun _=>U) (fun _=>U) fun h _=>A [84,90,8]
  ·refine A [87,60,66,79] ?_
   exact zDa 2101101 (nB) Prod.fst zAZ f.2.1 (fun _=>U) (fun _=>U) U U U rN
 ·refine A [68,80] ?_
  refine zFQ Tryz.underlying122 U U U U U U (ns (zAD U ?_ ?_))
  ·refine A [6,91,202] ?_
   exact vT [40] [42] [] U U (pk (zL4 fu a) U U fun i _=>pzq U) (fun _=>U) (fun _=>U) fun i _=>A [84,90,8]
  ·refine A [87,60,66,79] ?_
   exact zDa 2101101 (nB) Prod.fst zAZ g.2.2.1 (fun _=>U) (fun _=>U) U U U rN
def zHK (fu:Nat) (c:Forest) (d:Int) (f:Bs) (a:Int):Option (Forest×(List Note)×Int):=bnd (zGp fu c d) fun e=>bnd (zBP fu (fun (g:(List (Node×Bool))) (h:(List Note))=>zHJ fu d f a g h) c e) fun b=>some (b.1,b.2.1,b.2.2)
theorem zSR {fu:Nat} {b:Forest} {c:Int} {d:Bs} {a:Int}:DD (zHK fu b c d a) 141 [.agg (zAE b),Z c,O d,Z a] fun r=>.tup [.agg (zAE r.1),.sl 9 false (r.2.1.map zBI),Z r.2.2]:=by
 refine fcI Tryz.func141 U (A [9,30,4,30,5,30,6,30,7,31,8,2,0,6,52,5,5,4,5,6,7,8,8,7,6,5,4,53,12,0,0,0,6,0,31,63,63,63,511,1023,2047,203,54,2,1,24,26,28] (fun f _=>?_) zMN)
 exact vq 1 U (by kernel_rfl) (vT [11,13,15,22,28,30] [32,4321] [2160] U U (tqG (rn:=[(900000,5),(900001,6),(900002,7),(2101102,2160)]) (ks:=[2160]) ⟨zQ7⟩ U U U U U U U U fun e _=>zGf 2160 U U U (pzq U)) (fun _=>U) (fun _=>U) fun e _=>A [203,50,3,1,16,17,34,17,202,79,8])
def zFq (b:Int) (y6:Node) (c11:Int) (r13:List Int):Nat->Int×(List Node)×(List Note)->Option (Forest×(List Note)×Int)
 | 0,_=>none
 | k1+1,(t14,l15,l16)=>cnd (decide (t14<(r13.length:Int))) (bnd (idx r13 t14) fun a=>bnd (idx l15 a) fun c=>bnd (idx (l15.set (a).toNat ({c with Doc:=b}:Node)) a) fun f=>cnd (f.Kind==1) (bnd (zDI 88 (l16.length+([(⟨3,a,y6.Doc,b,[],false,false,[],[]⟩:Note)]:List Note).length)) fun _=>bnd (rng .i64 (t14+1)) fun d=>(zFq b y6 c11 r13 k1) (d,(l15.set (a).toNat ({c with Doc:=b}:Node)),(l16++[(⟨3,a,y6.Doc,b,[],false,false,[],[]⟩:Note)]))) (bnd (rng .i64 (t14+1)) fun e=>(zFq b y6 c11 r13 k1) (e,(l15.set (a).toNat ({c with Doc:=b}:Node)),l16))) (some ((⟨l15,c11⟩:Forest),l16,0))
def zIe (fu:Nat) (d c:Int) (y6:Node) (e:(List Note)×(List Node)×Int):Option (Forest×(List Note)×Int):=match e with
 | (l9,c10,c11)=>cnd (y6.Doc==c) (some ((⟨c10,c11⟩:Forest),l9,0)) (bnd (zAr fu c10) fun a=>bnd (zDl fu (⟨a,c11⟩:Forest) d) fun b=>(zFq c y6 c11 b) fu (0,a,l9))
def zId (fu:Nat) (b:Forest) (c d:Int) (y6:Node) (e:Unit):Option (Forest×(List Note)×Int):=bnd (zEG fu b c) fun a=>cnd (a.2.2 != 0) ((zIe fu c d y6) ([],b.Nodes,b.Most)) ((zIe fu c d y6) (a.2.1,a.1.Nodes,a.1.Most))
def zJb (fu:Nat) (a:Forest) (b c:Int):Option (Forest×(List Note)×Int):=bnd (zEz fu a [b]) fun f=>cnd (!f) (some (a,[],1)) (bnd (zKo fu a c) fun g=>cnd (!g) (some (a,[],1)) (bnd (idx a.Nodes b) fun e=>bnd (idx a.Nodes b) fun d=>cnd (d.Kind==0) (cnd (d.Kind==0) (some (a,[],5)) ((zId fu a b c e) ())) (cnd (d.Kind==4) (some (a,[],5)) ((zId fu a b c e) ()))))
theorem zU3 {fu:Nat} {k:Forest} {h d:Int}:DD (zJb fu k h d) 142 [.agg (zAE k),Z h,Z d] fun r=>.tup [.agg (zAE r.1),.sl 9 false (r.2.1.map zBI),Z r.2.2]:=by
 refine fcI Tryz.func142 U (A [9,30,3,31,6,2,0,6,61] ?_)
 refine pl ([h].map zAB) 17 U U U U U U (zN8 (ps:=[.agg (zAE k),.own 17]) [(17,.sl 1 false ([h].map zAB))] [] (enc:=fun (y:Bool)=>Y y) (Sr:=fun (y:Bool)=>[]) (qs:=[.agg (zAE k),.sl 1 false ([h].map zAB)]) (Sc:=[]) (N0:=[]) (NR:=[]) zHR trivial (fun _=>U) U U U U U U U (fun _=>U) (fun _=>U) ⟨zYD U,trivial⟩ U U (fun _=>U) (fun _=>by first | rfl | simp [zL3,zC9,zAB]) U U U ⟨⟨_,U,.rfl⟩,⟨_,U,.rfl⟩,trivial⟩ zfw U U fun y _=>pq 2 U (zAV (j:=20) U ?_ ?_))
 ·refine A [105,65,80,12,2,0] ?_
  exact zHc 7 (q:=.sl 9 false ([].map zBI)) U .nil rN
 ·refine A [2,41] (fun D _=>?_) zRC
  refine A [2,0] ?_
  refine zAD U ?_ ?_
  ·refine A [80,12,2,0] ?_
   exact zHc 7 (q:=.sl 9 false ([].map zBI)) U .nil rN
  ·refine A [67,93,36] fun n _=>?_
   refine A [3,0,6,93,36] fun E _=>?_
   refine A [2,0] ?_
   refine jw (zId fu k h d n) [1,2,3,6,9] [6,3] (fun _=>[]) (fun _=>[]) U U ?_ fun p=>?_
   ·rintro _
    refine A [7,61,43] (fun z _=>?_) zKO [(2120,2460)] [2460]
    refine A [104,31,10,12,2,0,6,62] ?_
    refine jw (zIe fu h d n) [1,2,6,9,10,11] [6] (fun _=>[]) (fun (x,o,e)=>[(2460,.arr 192 9 (x.map zBI)),(10,.box 24 [.sl 10 false (o.map zAZ),Z e])]) U U ?_ fun s=>?_
    ·rintro ⟨x,o,e⟩
     refine A [7,6,93,0,5,7,61,12,2,0,34,2460,8,67,61,43] (fun l _=>?_) zBq [(5,2600)] [2600]
     refine A [1,12,0,6,61] ?_
     refine zN8 (ps:=[.agg [.own 2600,Z e],Z h]) [(2600,.sl 10 false (l.map zAZ))] [2640] (enc:=fun (f:(List Int))=>.own 2640) (Sr:=fun (f:(List Int))=>[(2640,.arr 3 1 (f.map zAB))]) (qs:=[.agg (zAE (⟨l,e⟩:Forest)),Z h]) (Sc:=[]) (N0:=[]) (NR:=[2640]) (fun f i=>zP0 [(1035,2640)] [1035] (zKE _ i) U U U U U U) trivial (fun _=>U) U U U U U U U (fun _=>U) (fun _=>U) ⟨zYD U,trivial⟩ U U (fun _=>U) (fun _=>by first | rfl | simp [zL3,zC9,zAB]) U U U ⟨⟨_,U,.rfl⟩,⟨_,U,.rfl⟩,trivial⟩ zWj U U fun f i=>A [33,2640,77,13] ?_
     refine lw (zFq d n e f) [2,6,9,10,11,64,65] [10,6] (fun (m,a,b)=>[(66,Z m)]) (fun (m,a,b)=>[(2600,.arr 77 10 (a.map zAZ)),(2460,.arr 192 9 (b.map zBI))]) fu (0,l,x) U U ?_
     rintro C ⟨m,a,b⟩
     refine A [75,10,10,86,61,12,2,0,34,2600,34,2460,8,72,9,36] fun c _=>?_
     refine A [2,0,76,38] fun g t=>?_
     refine pq 1 U (zCk (T:=tab) zAZ a g ({g with Doc:=d}:Node) (zAx t) U U U U U U U U U U U U U (A [0,93,38] fun B u=>?_))
     refine pq 1 U (zAv (T:=tab) zAZ (a.set (c).toNat ({g with Doc:=d}:Node)) B (zAx u) U U U U U U U U (A [57] ?_))
     refine zAD U ?_ ?_
     ·refine A [14,104,20] ?_
      refine pl ([(⟨3,c,n.Doc,d,[],false,false,[],[]⟩:Note)].map zBI) 88 U U U U U U (pa zBI b ([(⟨3,c,n.Doc,d,[],false,false,[],[]⟩:Note)]:List Note) U U U U U U U U (zKt _) U U U (A [1,11,94] fun v _=>?_))
      exact A [89] (tx (v,(a.set (c).toNat ({g with Doc:=d}:Node)),(b++[(⟨3,c,n.Doc,d,[],false,false,[],[]⟩:Note)])))
     ·refine A [4,94] fun w _=>?_
      exact A [89] (tx (w,(a.set (c).toNat ({g with Doc:=d}:Node)),b))
    ·refine zAD U ?_ ?_
     ·refine A [14,1,12,1,11] ?_
      exact zZc 2460 192 9 11 U U U U (ps (s ([],k.Nodes,k.Most)))
     ·exact A [4,45] (s (z.2.1,z.1.Nodes,z.1.Most))
   ·refine A [13,6,62] ?_
    refine zAD U ?_ ?_
    ·refine A [67] ?_
     refine zAD U ?_ ?_
     ·refine A [80,12,2,0] ?_
      exact zHc 7 (q:=.sl 9 false ([].map zBI)) U .nil rN
     ·exact A [4,15,45] (p ())
    ·refine A [14,2,0] ?_
     refine zAD U ?_ ?_
     ·refine A [80,12,2,0] ?_
      exact zHc 7 (q:=.sl 9 false ([].map zBI)) U .nil rN
     ·exact A [4,15,45] (p ())
def zF7 (fu:Nat) (c:Node):Nat->Int×(List Note)×(List Node)×Int->Option (Forest×(List Note)×Int)
 | 0,_=>none
 | k1+1,(t5,l6,c7,c8)=>cnd (decide (t5<(c.Kids.length:Int))) (bnd (idx c.Kids t5) fun d=>bnd (zEG fu (⟨c7,c8⟩:Forest) d) fun a=>bnd (zDI 88 (l6.length+a.2.1.length)) fun _=>bnd (rng .i64 (t5+1)) fun b=>(zF7 fu c k1) (b,(l6++a.2.1),a.1.Nodes,a.1.Most)) (some ((⟨c7,c8⟩:Forest),l6,0))
def zIc (fu:Nat) (a:Forest) (b:Int):Option (Forest×(List Note)×Int):=bnd (zEz fu a [b]) fun c=>cnd (!c) (some (a,[],1)) (bnd (idx a.Nodes b) fun d=>(zF7 fu d) fu (0,[],a.Nodes,a.Most))
theorem zTk {fu:Nat} {c:Forest} {g:Int}:DD (zIc fu c g) 143 [.agg (zAE c),Z g] fun r=>.tup [.agg (zAE r.1),.sl 9 false (r.2.1.map zBI),Z r.2.2]:=by
 refine fcI Tryz.func143 U (A [73,31,4,2,0,6,61] ?_)
 refine pl ([g].map zAB) 15 U U U U U U (A [33,15,41] (fun k _=>?_) zHR)
 refine A [57] ?_
 refine zAD U ?_ ?_
 ·refine A [80,12,2,0] ?_
  exact zHc 5 (q:=.sl 9 false ([].map zBI)) U .nil rN
 ·refine A [67,75,93,36] fun i _=>?_
  refine A [2,77,13,56,1040,192,9,7] ?_
  refine lw (zF7 fu i) [2,4,7,24,25] [4] (fun (h,b,d,e)=>[(26,Z h)]) (fun (h,b,d,e)=>[(1040,.arr 192 9 (b.map zBI)),(2,.box 24 [.sl 10 false (d.map zAZ),Z e])]) fu (0,[],c.Nodes,c.Most) U U ?_
  rintro j ⟨h,b,d,e⟩
  refine A [75,10,8,86,61,12,2,0,34,1040,8,72,9,36] fun l _=>?_
  refine A [2,0,61,43] (fun a _=>?_) zKO [(2120,2330)] [2330]
  refine A [33,2330,104,31,10,12,2,0,52,8,4,2,4,7,24,25,26,10,11,10,1040,4,2,53,6,0,0,0,6,15,31,203] ?_
  refine vU [14,76,78,2081] [80,14,76,2081] [1040] U U (pa zBI b a.2.1 U U U U U U U U (zKt _) U U U (pyq U)) U U fun _ _=>A [50,3,1,4,5,74,5,201,19,94] fun f _=>?_
  exact A [89] (tx (f,(b++a.2.1),a.1.Nodes,a.1.Most))
def zDd (fu:Nat) (a:Op) (b:zAN) (m:Bool):Option (zBY×zAN):=cnd m (bnd (zKi fu b.World.Forest a.A a.S a.T) fun c=>bnd (zAn fu c.1 c.2.1 c.2.2) fun h=>some (h,b)) (cnd (a.Kind==10) (bnd (zIM fu b.World.Forest a.A a.S) fun d=>bnd (zAn fu d.1 d.2.1 d.2.2) fun i=>some (i,b)) (cnd (a.Kind==11) (bnd (zHK fu b.World.Forest a.A a.S a.B) fun e=>bnd (zAn fu e.1 e.2.1 e.2.2) fun j=>some (j,b)) (cnd (a.Kind==13) (bnd (zJb fu b.World.Forest a.A a.B) fun f=>bnd (zAn fu f.1 f.2.1 f.2.2) fun k=>some (k,b)) (bnd (zIc fu b.World.Forest a.A) fun g=>bnd (zAn fu g.1 g.2.1 g.2.2) fun l=>some (l,b)))))
def zDc (fu:Nat) (a:Op) (d:zAN) (g:Bool):Option (zBY×zAN):=cnd g (bnd (zEG fu d.World.Forest a.A) fun b=>bnd (zAn fu b.1 b.2.1 b.2.2) fun e=>some (e,d)) (cnd (a.Kind==8) (bnd (zEc fu d.World.Forest a.A a.B a.C) fun c=>bnd (zAn fu c.1 c.2.1 c.2.2) fun f=>some (f,d)) (cnd (a.Kind==9) ((zDd fu a d) (a.Kind==9)) ((zDd fu a d) (a.Kind==28))))
def zDb (fu:Nat) (a:Op) (c:zAN) (e:Bool):Option (zBY×zAN):=cnd e (bnd (zDK fu c.World.Forest a.A a.B a.C) fun b=>bnd (zAn fu b.1 b.2.1 b.2.2) fun d=>some (d,c)) (cnd (a.Kind==7) ((zDc fu a c) (a.Kind==7)) ((zDc fu a c) (a.Kind==27)))
def zED (fu:Nat) (a:Op) (b:zAN):Option (zBY×zAN):=cnd (a.Kind==2) (bnd (zDA fu (⟨1,a.S,a.T,[],[],0,[],0,0,a.A⟩:Node) b) fun f=>some (f.1,f.2)) (cnd (a.Kind==3) (bnd (zDA fu (⟨2,[],[],a.S,[],0,[],0,0,a.A⟩:Node) b) fun g=>some (g.1,g.2)) (cnd (a.Kind==4) (bnd (zDA fu (⟨3,[],[],[],[],0,[],0,0,a.A⟩:Node) b) fun h=>some (h.1,h.2)) (cnd (a.Kind==5) (bnd (zIC fu b.World.Forest a.A) fun d=>some ((⟨d.1,[],d.2.2⟩:zBY),(⟨b.World,d.2.1⟩:zAN))) (cnd (a.Kind==12) (bnd (zLb fu b.World.Forest a.A a.C (a.B != 0)) fun e=>some ((⟨e.1,[],e.2.2⟩:zBY),(⟨b.World,e.2.1⟩:zAN))) (cnd (a.Kind==15) (bnd (zLc fu b.World.Forest a.A) fun c=>some ((⟨c.1,c.2.2.1,c.2.2.2⟩:zBY),(⟨b.World,c.2.1⟩:zAN))) (cnd (a.Kind==6) ((zDb fu a b) (a.Kind==6)) ((zDb fu a b) (a.Kind==26))))))))
theorem zNm {fu:Nat} {a:Op} {b:zAN}:FF (zED fu a b) 84 [.loc 900000 0,.agg (cOp a)] [(900000,.box 99 (zB3 b))] [900000] (fun r=>.agg (zMu r.1)) fun r=>[(900000,.box 99 (zB3 r.2))]:=by
 refine fcI Tryz.func84 U (A [9,30,3,31,4,0,9,105,31,5,12,0,6,62,13,62] ?_)
 refine zAD U ?_ ?_
 ·refine A [9,107,20] ?_
  exact tqG (rn:=[(900000,900000)]) (ks:=[]) ⟨zHm⟩ U U U U U U U U (ha:=⟨⟨_,U,.rfl⟩,⟨_,U,(.agg ⟨.rfl,.rfl,.rfl,.rfl,.nil,.rfl,.nil,.rfl,.rfl,.rfl,trivial⟩)⟩,trivial⟩) fun C _=>A [12,74]
 ·refine A [62] ?_
  refine zAD U ?_ ?_
  ·refine A [9,105,20] ?_
   exact tqG (rn:=[(900000,900000)]) (ks:=[]) ⟨zHm⟩ U U U U U U U U (ha:=⟨⟨_,U,.rfl⟩,⟨_,U,(.agg ⟨.rfl,.rfl,.rfl,.rfl,.nil,.rfl,.nil,.rfl,.rfl,.rfl,trivial⟩)⟩,trivial⟩) fun D _=>A [12,74]
  ·refine A [62] ?_
   refine zAD U ?_ ?_
   ·refine A [93,20] ?_
    exact tqG (rn:=[(900000,900000)]) (ks:=[]) ⟨zHm⟩ U U U U U U U U (ha:=⟨⟨_,U,.rfl⟩,⟨_,U,(.agg ⟨.rfl,.rfl,.rfl,.rfl,.nil,.rfl,.nil,.rfl,.rfl,.rfl,trivial⟩)⟩,trivial⟩) fun E _=>A [12,74]
   ·refine A [62] ?_
    refine zAD U ?_ ?_
    ·refine A [93,41] (fun h _=>?_) zRB
     refine A [104,31,6,12,2,0,76,12,0,61,20,12,0] ?_
     exact zFz 4 [.sl 10 false (h.1.Nodes.map zAZ),Z h.1.Most,.sl 9 false ([].map zBI),Z h.2.2] U ⟨.rfl,.rfl,.nil,.rfl,trivial⟩ U rN
    ·refine A [62] ?_
     refine zAD U ?_ ?_
     ·refine A [9,108,41] (fun i _=>?_) zU1
      refine A [104,31,9,12,2,0,76,12,0,61,20,12,0] ?_
      exact zFz 4 [.sl 10 false (i.1.Nodes.map zAZ),Z i.1.Most,.sl 9 false ([].map zBI),Z i.2.2] U ⟨.rfl,.rfl,.nil,.rfl,trivial⟩ U rN
     ·refine A [62] ?_
      refine zAD U ?_ ?_
      ·refine A [93,41] (fun F _=>?_) zU2
       exact A [105,31,12,12,3,0,76,12,0,93,20,12,74]
      ·refine A [6,62] ?_
       refine jw (zDb fu a b) [3,4,5,22] [5,4,3,900000] (fun j=>[(108,Y j)]) (fun _=>[]) U U ?_ fun c=>?_
       ·rintro j
        refine zIz (zAD U ?_ ?_)
        ·refine A [9,107,41] (fun k _=>?_) zNe
         refine A [3,41] (fun l _=>?_) zDR
         exact A [12,74]
        ·refine A [6,62] ?_
         refine jw (zDc fu a b) [3,4,5,22] [5,4,3,900000] (fun f=>[(123,Y f)]) (fun _=>[]) U U ?_ fun d=>?_
         ·rintro f
          refine zIz (zAD U ?_ ?_)
          ·refine A [93,43] (fun m _=>?_) zKO [(2120,3290)] [3290]
           refine A [33,3290,3,41] (fun n _=>?_) zDR
           exact A [12,74]
          ·refine A [62] ?_
           refine zAD U ?_ ?_
           ·refine A [9,107,41] (fun o _=>?_) zQ1
            refine A [3,41] (fun p _=>?_) zDR
            exact A [12,74]
           ·refine A [6,62] ?_
            refine jw (zDd fu a b) [3,4,5,22] [5,4,3,900000] (fun g=>[(148,Y g)]) (fun _=>[]) U U ?_ fun e=>?_
            ·rintro g
             refine zIz (zAD U ?_ ?_)
             ·refine A [9,107,41] (fun q _=>?_) zWP
              refine A [3,41] (fun s _=>?_) zDR
              exact A [12,74]
             ·refine A [62] ?_
              refine zAD U ?_ ?_
              ·refine A [9,105,41] (fun t _=>?_) zTg
               refine A [3,41] (fun u _=>?_) zDR
               exact A [12,74]
              ·refine A [62] ?_
               refine zAD U ?_ ?_
               ·refine A [9,107,41] (fun v _=>?_) zSR
                refine A [3,41] (fun w _=>?_) zDR
                exact A [12,74]
               ·refine A [62] ?_
                refine zAD U ?_ ?_
                ·refine A [9,105,41] (fun x _=>?_) zU3
                 refine A [3,41] (fun y _=>?_) zDR
                 exact A [12,74]
                ·refine A [4,69,93,41] (fun z _=>?_) zTk
                 refine A [3,41] (fun B _=>?_) zDR
                 exact A [12,74]
            ·refine zAD U ?_ ?_
             ·exact A [4,45] (e (a.Kind==9))
             ·exact A [14,2,11,45] (e (a.Kind==28))
         ·refine zAD U ?_ ?_
          ·exact A [4,45] (d (a.Kind==7))
          ·exact A [14,2,11,45] (d (a.Kind==27))
       ·refine zAD U ?_ ?_
        ·exact A [4,45] (c (a.Kind==6))
        ·exact A [14,2,11,45] (c (a.Kind==26))
def zB2 (a:zAI) (b:Forest):Nat->Int->Option Bool
 | 0,_=>none
 | k1+1,t3=>cnd (decide (t3<(a.World.Forest.Nodes.length:Int))) (bnd (idx a.World.Forest.Nodes t3) fun d=>bnd (idx b.Nodes t3) fun e=>cnd (e.Kind != d.Kind) (some false) (bnd (rng .i64 (t3+1)) fun c=>(zB2 a b k1) c)) (some true)
def zES (fu:Nat) (b:zAI) (a:Forest):Option Bool:=cnd (a.Most != b.World.Forest.Most) (some false) (cnd (decide ((a.Nodes.length:Int)<(b.World.Forest.Nodes.length:Int))) (some false) ((zB2 b a) fu 0))
theorem zL8 {fu:Nat} {b:zAI} {a:Forest}:DD (zES fu b a) 144 [.agg (zEX b),.agg (zAE a)] fun r=>Y r:=by
 refine fcI Tryz.func144 U (A [73,30,3,57,6,9,108,26,14,2,110,83,2,35,104,35,2,0,5,1,59,68,76,77,13] ?_)
 refine lw (zB2 b a) [3,28,29] [3] (fun c=>[(30,Z c)]) (fun _=>[]) fu 0 U U ?_
 rintro f c
 refine A [75,10,2,86,59,72,80,36] fun g _=>?_
 refine A [1,31,6,1,12,0,6,52,6,2,3,28,29,30,6,5,6,3,53,9,0,1,0,7,15,31,0,64,255,203] ?_
 refine vT [72,74] [76] [] U U (zE1 (T:=tab) zAZ a.Nodes U U U U U U U fun e _=>pzq U) (fun _=>U) (fun _=>U) fun e _=>A [205,79,5,1,59,4,94] fun d _=>?_
 exact A [89] (tx d)
def zMX (fu:Nat) (c:Forest) (a:List State) (d:Desk) (b:List Class):Option (zDV×Bool):=cnd ((a.length:Int)==(c.Nodes.length:Int)) (bnd (zAs fu c) fun e=>cnd e (bnd (zGx fu d) fun f=>some ((⟨c,a,d,b⟩:zDV),f)) (some ((⟨c,a,d,b⟩:zDV),false))) (some ((⟨c,a,d,b⟩:zDV),false))
theorem zTm {fu:Nat} {c:Forest} {a:List State} {d:Desk} {b:List Class}:DD (zMX fu c a d b) 214 [.agg (zAE c),.sl 4 false (a.map zBn),.agg (zI8 d),.sl 5 false (b.map zCA)] fun r=>.tup [.agg (zLh r.1),Y r.2]:=by
 refine fcI Tryz.func214 U (A [9,30,4,30,6,31,8,57,6,52,5,3,1,3,4,6,8,8,6,4,53,21,0,0,0,0,15,0,32,0,128,384,992,2016,4064,8160,16352,32736,65504,131040,262112,262143,1048575,204,51,4,1,20,22,24,26,28,201] ?_)
 refine vS [30] [32] [] U U (zR6 (T:=tab) zBn a U U U U U U U U (pyq U)) U U (vq 2 U (by kernel_rfl) (vS [36] [38] [] U U (zR6 (T:=tab) zAZ c.Nodes U U U U U U U U (pyq U)) U U (vq 2 U (by kernel_rfl) (zBd (t:=21) U ?_ ?_))))
 ·refine A [201,54,2,1,42,44,46] (fun e _=>?_) zA7
  refine vq 2 U (by kernel_rfl) (zBd (t:=25) U ?_ ?_)
  ·refine A [201,54,2,1,50,52,54] (fun f _=>?_) zLN
   exact A [201,50,3,1,16,17,28,17,201,79,8]
  ·exact A [203,50,3,1,16,17,28,17,201,79,8]
 ·exact A [207,50,3,1,16,17,28,17,201,79,8]
def zFM (_fu:Nat) (b:zDV) (a:Int):Option Bool:=cnd (decide (a>=0)) (cnd (decide (a<(b.Forest.Nodes.length:Int))) (bnd (idx b.Forest.Nodes a) fun c=>some (c.Kind==1)) (some false)) (some false)
theorem zNR {fu:Nat} {b:zDV} {a:Int}:DD (zFM fu b a) 215 [.agg (zLh b),Z a] fun r=>Y r:=by
 refine fcI Tryz.func215 U (A [73,57,93,27,7,2,118,74,104,35,3,27,15,2,110,74,104,36] fun c _=>?_)
 exact A [105,74]
def zJN (fu:Nat) (a:Forest) (b:Int) (c:Desk):Option Int:=cnd (decide (b<0)) (some (-1)) (cnd (decide (b>=(a.Nodes.length:Int))) (some (-1)) (bnd (zAs fu a) fun d=>cnd (!d) (some (-1)) (bnd (idx a.Nodes b) fun f=>bnd (zJO fu f c) fun e=>some e)))
theorem zPk {fu:Nat} {a:Forest} {c:Int} {b:Desk}:DD (zJN fu a c b) 86 [.agg (zAE a),Z c,.agg (zI8 b)] fun r=>Z r:=by
 refine fcI Tryz.func86 U (A [9,30,3,30,5,57,6,93,26,9,2,111,83,3,35,3,26,16,2,104,83,1,41] (fun e _=>?_) zA7)
 refine A [2,0,5,1,59,68,52,3,2,1,3,5,5,3,53,8,0,1,0,7,15,0,63,127,203] ?_
 refine vT [44,46] [48] [] U U (zE1 (T:=tab) zAZ a.Nodes U U U U U U U fun d _=>pzq U) (fun _=>U) (fun _=>U) fun d _=>A [202,54,2,1,50,52,54] (fun f _=>?_) zPl
 exact A [201,79,8]
def zHT (fu:Nat) (a:Class) (d:Bs):Option Bool:=bnd (zEQ fu a 4) fun b=>cnd b (bnd (zA9 fu a.Watch d) fun c=>some c) (some false)
theorem zQK {fu:Nat} {a:Class} {b:Bs}:DD (zHT fu a b) 263 [.agg (zCA a),O b] fun r=>Y r:=by
 refine fcI Tryz.func263 U (A [73,57,80,41] (fun c _=>?_) zGa)
 refine A [1,27,7,2,106,74,3,41] (fun d _=>?_) zCw
 exact A [2,74]
def zBV (fu:Nat) (b:Note) (c:Class×Bool) (a:Bool):Option (Todo×Bool):=cnd a (bnd (zEQ fu c.1 b.Kind) fun d=>some (({b with Def:=0,On:=false}:Todo),d)) (some (({b with Def:=0,On:=false}:Todo),false))
def zFL (fu:Nat) (c:zDV) (a:Note):Option (Todo×Bool):=bnd (idx c.states a.Node) fun e=>cnd (e.Phase==1) (bnd (zJN fu c.Forest a.Node c.desk) fun d=>cnd (a.Kind==1) (some ((⟨9,d,[],false,false,[],[],0,0,false⟩:Todo),(d != (-1)))) (some ((⟨9,d,[],false,false,[],[],0,0,false⟩:Todo),false))) (cnd (e.Phase==3) (bnd (zF8 fu e c.desk c.classes) fun b=>cnd (a.Kind==4) (cnd b.2 (bnd (zHT fu b.1 a.Name) fun f=>(zBV fu a b) f) ((zBV fu a b) false)) (cnd (a.Kind==1) (cnd (a.Kind==1) ((zBV fu a b) b.2) (some ((⟨0,0,[],false,false,[],[],0,0,false⟩:Todo),false))) (cnd (a.Kind==2) (cnd (a.Kind==2) ((zBV fu a b) b.2) (some ((⟨0,0,[],false,false,[],[],0,0,false⟩:Todo),false))) (cnd (a.Kind==3) ((zBV fu a b) b.2) (some ((⟨0,0,[],false,false,[],[],0,0,false⟩:Todo),false)))))) (some ((⟨0,0,[],false,false,[],[],0,0,false⟩:Todo),false)))
theorem zNQ {fu:Nat} {e:zDV} {d:Note}:DD (zFL fu e d) 216 [.agg (zLh e),.agg (zBI d)] fun r=>.tup [.agg (zLg r.1),Y r.2]:=by
 refine fcI Tryz.func216 U (A [73,30,3,31,4,57,76,36] fun i _=>?_)
 refine A [1,31,6,12,0,6,62,13,62] ?_
 refine zAD U ?_ ?_
 ·refine A [9,106,41] (fun g _=>?_) zPk
  exact A [57,80,20,104,26,33,3,3,92,8,3,92,8]
 ·refine A [62,10,4,9,20,92,8,4,69,9,105,41] (fun c _=>?_) zKR
  refine A [3,31,8,92,6,62,13,6] ?_
  refine jw (zBV fu d c) [3,4,8] [8,4,3] (fun b=>[(9,Y b)]) (fun _=>[]) U U ?_ fun a=>?_
  ·rintro b
   refine A [7,6,6,52,4,3,3,4,8,9,8,4,3,53,26,0,1,0,4,0,16,0,64,0,256,0,1024,0,4096,0,16384,65535,0,131072,393216,393216,1441792,4063232,8257536,8388607,33554431,216,51,8,1,128,132,136,140,144,148,152,156,158,202] ?_
   refine zBd (t:=81) U ?_ ?_
   ·refine A [203,54,3,1,162,164,168,170] (fun h _=>?_) zGa
    exact A [201,50,3,1,8,9,158,9,201,79,8]
   ·exact A [205,50,3,1,8,9,158,9,201,79,8]
  ·refine A [13,6,13,6,6,62] ?_
   refine zAD U ?_ ?_
   ·refine A [86,14,2] ?_
    refine zAV (j:=57) U ?_ ?_
    ·refine A [3,41] (fun f _=>?_) zQK
     exact A [2,11,15,45] (a f)
    ·exact A [106,11,15,45] (a false)
   ·refine A [68,62] ?_
    refine zAD U ?_ ?_
    ·exact A [67,10,6,67,86,9,20,92,8,17,45] (a c.2)
    ·refine A [62] ?_
     refine zAD U ?_ ?_
     ·exact A [67,10,6,67,86,9,20,92,8,17,45] (a c.2)
     ·exact A [14,2,0,10,6,67,86,9,20,92,8,17,45] (a c.2)
def zE0 (fu:Nat) (a:List Note) (c:zDV×Bool):Nat->Int×(List Due)->Option (List Due)
 | 0,_=>none
 | k1+1,(t7,l8)=>cnd (decide (t7<(a.length:Int))) (bnd (idx a t7) fun d=>bnd (zFM fu c.1 d.Node) fun h=>cnd (!h) (bnd (rng .i64 (t7+1)) fun e=>(zE0 fu a c k1) (e,l8)) (bnd (zFL fu c.1 d) fun b=>cnd b.2 (bnd (zDI 104 (l8.length+([(⟨d.Node,b.1⟩:Due)]:List Due).length)) fun _=>bnd (rng .i64 (t7+1)) fun f=>(zE0 fu a c k1) (f,(l8++[(⟨d.Node,b.1⟩:Due)]))) (bnd (rng .i64 (t7+1)) fun g=>(zE0 fu a c k1) (g,l8)))) (some l8)
def zLd (fu:Nat) (f:Forest) (b:List State) (e:Desk) (a:List Class) (c:List Note):Option (List Due):=bnd (zMX fu f b e a) fun d=>cnd (!d.2) (some []) ((zE0 fu c d) fu (0,[]))
theorem zU4 {fu:Nat} {l:Forest} {c:List State} {k:Desk} {a:List Class} {b:List Note}:DD (zLd fu l c k a b) 147 [.agg (zAE l),.sl 4 false (c.map zBn),.agg (zI8 k),.sl 5 false (a.map zCA),.sl 9 false (b.map zBI)] fun r=>.sl 11 false (r.map zJF):=by
 refine fcI Tryz.func147 U (A [9,30,5,30,7,57,76,41] (fun n _=>?_) zTm)
 refine A [3,31,11,92,6,62] ?_
 refine zAD U ?_ ?_
 ·refine A [58] ?_
  exact zHc 10 (q:=.sl 11 false ([].map zJF)) U .nil rN
 ·refine A [67,75,80,77,13,56,1052,171,11,13] ?_
  refine lw (zE0 fu b n) [11,13,28,29] [11] (fun (i,d)=>[(30,Z i)]) (fun (i,d)=>[(1052,.arr 171 11 (d.map zJF))]) fu (0,[]) U U ?_
  rintro o ⟨i,d⟩
  refine A [75,10,5,86,62,34,1052,8,72,9,36] fun j _=>?_
  refine A [1,31,15,12,0,6,93,41] (fun m _=>?_) zNR
  refine A [57] ?_
  refine zAD U ?_ ?_
  ·refine A [86,14,16] fun f _=>?_
   exact A [89] (tx (f,d))
  ·refine A [67,99] (fun e _=>?_) zNQ
   refine A [3,31,16,92,58] ?_
   refine zAD U ?_ ?_
   ·refine A [14,104,20] ?_
    refine pl ([(⟨j.Node,e.1⟩:Due)].map zJF) 51 U U U U U U (pa zJF d ([(⟨j.Node,e.1⟩:Due)]:List Due) U U U U U U U U (zQc _) U U U (A [1,11,94] fun g _=>?_))
    exact A [89] (tx (g,(d++[(⟨j.Node,e.1⟩:Due)])))
   ·refine A [4,94] fun h _=>?_
    exact A [89] (tx (h,d))
def zG1 (fu:Nat) (c:Forest) (a:zMV):Nat->Int×(List Int)×(List (Int×(List (Bs×Int))))->Option (List Int)
 | 0,_=>none
 | k1+1,(t4,l5,l6)=>cnd (decide (t4<(c.Nodes.length:Int))) (bnd (zEs fu a.Forest.Nodes a.Forest.Most t4 l6) fun b=>bnd (zDI 8 (l5.length+([b.1]:List Int).length)) fun _=>bnd (rng .i64 (t4+1)) fun d=>(zG1 fu c a k1) (d,(l5++[b.1]),b.2)) (some l5)
def zLR (fu:Nat) (a:Forest):Option (List Int):=bnd (zAs fu a) fun c=>cnd (!c) (some []) (bnd (zIV fu a) fun b=>(zG1 fu a b) fu (0,[],b.ids))
theorem zUz {fu:Nat} {c:Forest}:DD (zLR fu c) 217 [.agg (zAE c)] fun r=>.sl 1 false (r.map zAB):=by
 refine fcI Tryz.func217 U (A [9,30,1,57,6,80,41] (fun i _=>?_) zA7)
 refine A [57] ?_
 refine zAD U ?_ ?_
 ·refine A [58] ?_
  exact zHc 2 (q:=.sl 1 false ([].map zAB)) U .nil rN
 ·refine A [67,58,80,43] (fun f _=>?_) zOM [(4,2100)] [2100]
  refine A [31,4,12,0,6,61,77,13,56,1022,3,1,3] ?_
  refine lw (zG1 fu c f) [3,4,13] [4] (fun (e,a,d)=>[(14,Z e)]) (fun (e,a,d)=>[(1022,.arr 3 1 (a.map zAB)),(2100,.mp (d.map fun p:Int×(List (Bs×Int))=>(zOF .i64 p.1,.mpd (p.2.map fun p:Bs×Int=>(zNV p.1,Z p.2)))))]) fu (0,[],f.ids) U U ?_
  rintro h ⟨e,a,d⟩
  refine A [75,10,5,86,62,34,1022,8,72,62,14,3,43] (fun b _=>?_) zKD [(900000,2100)]
  refine pl ([b.1].map zAB) 21 U U U U U U (pa zAB a ([b.1]:List Int) U U U U U U U U (zC1 _) U U U (A [1,11,94] fun g _=>?_))
  exact A [89] (tx (g,(a++[b.1]),b.2))
def zFi (fu:Nat) (a:Node):Option Bool:=bnd (zF2 fu a.Attrs [100,105,115,97,98,108,101,100]) fun b=>cnd (a.Kind==1) (some b.2) (some false)
theorem zLw {fu:Nat} {a:Node}:DD (zFi fu a) 282 [.agg (zAZ a)] fun r=>Y r:=by
 refine fcI Tryz.func282 U (A [9,30,1,57,99] (fun b _=>?_) zHl)
 exact A [105,0,76,26,14,2,3,74,3,74]
def zCy (_fu:Nat) (b:Int) (a:Forest):Option Bool:=bnd (idx a.Nodes b) fun c=>cnd (c.Kind==1) (bnd (idx a.Nodes b) fun d=>some (d.Name==([108,101,103,101,110,100]:Bs))) (some false)
theorem zQA {fu:Nat} {b:Int} {a:Forest}:FF (zCy fu b a) 287 [Z b,.loc 900000 0] [(900000,.box 24 (zAE a))] [900000] (fun r=>Y r) fun _=>[(900000,.box 24 (zAE a))]:=by
 refine fcI Tryz.func287 U (A [58,93,36] fun c _=>?_)
 refine A [104,27,11,2,109,74,3,36] fun d _=>?_
 exact A [105,74]
end Go.Proofs.YtmfbghpealgaiaaGreatDoor
