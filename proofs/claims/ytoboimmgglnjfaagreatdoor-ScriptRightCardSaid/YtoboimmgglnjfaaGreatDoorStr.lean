/- Texts: pieces, sums, bytes; pieces of slices. No program is named here. -/
import Derived.Test.YtoboimmgglnjfaaGreatDoorCall
import Derived.Laws.IdiomStrings
namespace Go.Pw
open Go
section
variable {ρ : Type} {G:Ctx ρ} {m:Option ρ} {K:List (Kont ρ)} {E:Env} {S:Store} {all:Array Oper}
def cat (s t:List UInt8):Option (List UInt8):=if s.length+t.length<=9223372036854775807 then some (s++t) else none
theorem zOl {o:Oper} {t yt:TypeId} {x y:Operand} {s1 s2 s:List UInt8} (ho:o.op=.binOp .add t x y yt) (hx:ev E x=some (.v (.string ⟨⟨s1⟩⟩))) (hy:ev E y=some (.v (.string ⟨⟨s2⟩⟩))) (hs:cat s1 s2=some s)
  {σ : Nat->Value} {φ : Nat->Nat->Prop} {w:World} {a:Act} (hp:Pre' G E S a w σ φ):zB9 G S o σ φ a w (.v (.string ⟨⟨s⟩⟩)):=by
 obtain ⟨h1,_⟩:=(zBI hp.env hx).flat_inv
 obtain ⟨h2,_⟩:=(zBI hp.env hy).flat_inv
 unfold cat at hs
 split at hs<;>cases hs
 rename_i hle
 unfold zB9
 have:(execOp a.eval o).run G.P w=.ok (.value (.string ⟨⟨s1++s2⟩⟩)) w:=by
  have hsz:¬(((⟨⟨s1⟩⟩:ByteArray).size+(⟨⟨s2⟩⟩:ByteArray).size:Nat):Int)>IntKind.i64.max:=by
   show ¬(((s1.length+s2.length:Nat):Int)>_)
   simp [IntKind.max,IntKind.bits,IntKind.signed]
   omega
  have happ:(⟨⟨s1⟩⟩:ByteArray)++⟨⟨s2⟩⟩=⟨⟨s1++s2⟩⟩:=by
   apply ByteArray.ext
   simp
  simp only [execOp,ho,h1,h2,eqGuard,binOp,Op.stringOp]
  rw [if_neg hsz,happ]
  rfl
 rw [this]
 exact ⟨rfl,.d (.v rfl)⟩
theorem zCW {o:Oper} {rest:List Oper} {t yt:TypeId} {x y:Operand} {s1 s2:List UInt8} {f:List UInt8->Option ρ} {d:Nat} (ho:o.op=.binOp .add t x y yt) (hg:gE all E o=some true) (hx:ev E x=some (.v (.string ⟨⟨s1⟩⟩))) (hy:ev E y=some (.v (.string ⟨⟨s2⟩⟩)))
  (hd:o.dst=some d) (hlt:Nat.blt d G.fn.ntmps=true) (k:∀s,cat s1 s2=some s->PO G (f s) all rest K ((d,.v (.string ⟨⟨s⟩⟩))::E) S):PO G (bnd (cat s1 s2) f) all (o::rest) K E S :=
 zGD fun s hs=>zEi hg (fun _ _ _ _ hp=>zOl ho hx hy hs hp) hd hlt (k s hs)
theorem zKZ {o:Oper} {rest:List Oper} {t yt:TypeId} {x y:Operand} {s1 s2:List UInt8} {f:List UInt8->Option ρ} {d:Nat} (ho:o.op=.binOp .add t x y yt) (hg:gE all (zDn (o.looksAt all) E) o=some true) (hx:ev (zDn (o.looksAt all) E) x=some (.v (.string ⟨⟨s1⟩⟩))) (hy:ev (zDn (o.looksAt all) E) y=some (.v (.string ⟨⟨s2⟩⟩)))
  (hd:o.dst=some d) (hlt:Nat.blt d G.fn.ntmps=true) (k:∀s,cat s1 s2=some s->PD G (f s) all rest K ((d,.v (.string ⟨⟨s⟩⟩))::E) S):PD G (bnd (cat s1 s2) f) all (o::rest) K E S :=
 zLG fun s hs=>zG1 hg (fun _ _ _ _ hp=>zOl ho hx hy hs hp) hd hlt (k s hs)
def zC3 {α : Type} (s:List α) (lo hi:Int):Option (List α):=if 0<=lo/\lo<=hi/\hi<=(s.length:Int) then some ((s.drop lo.toNat).take (hi.toNat - lo.toNat)) else none
theorem zTi {α : Type} {s r:List α} {lo hi:Int} (h:zC3 s lo hi=some r):0<=lo/\lo<=hi/\hi<=(s.length:Int)/\r=(s.drop lo.toNat).take (hi.toNat - lo.toNat):=by
 unfold zC3 at h
 split at h<;>cases h
 rename_i h
 exact ⟨h.1,h.2.1,h.2.2,rfl⟩
def bndE (E:Env) (dflt:Int):Option Operand->Option Int
 | none=>some dflt
 | some x=>match ev E x with
  | some (.v (.int _ i))=>some i
  | _=>none
theorem zQJ {P:Program} {b:Bool} {len cap:Nat} {w:World} {lo hi:Option Value} {l h:Int} (h1:0<=l) (h2:l<=h) (h3:h<=(cap:Int))
  (hlo:(lo=none/\l=0)\/∃k,lo=some (.int k l)) (hhi:(hi=none/\h=(len:Int))\/∃k,hi=some (.int k h)):(Instr.sliceBounds b len cap lo hi none).run P w=.ok (l.toNat,h.toNat,cap) w:=by
 have sb:∀(k:IntKind) (x:Int) (n:Nat) (c:BoundsCode),0<=x->x<=(n:Int)->(Instr.sliceBound (.int k x) n c).run P w=.ok x.toNat w:=by
  intro k x n c h0 hn
  simp [Instr.sliceBound,asIntOf,h0,hn]
 have hh:((h.toNat:Nat):Int)=h:=Int.toNat_of_nonneg (by omega)
 unfold Instr.sliceBounds
 rcases hlo with ⟨rfl,rfl⟩ | ⟨k,rfl⟩<;>rcases hhi with ⟨rfl,rfl⟩ | ⟨k',rfl⟩
 ·simp
 ·simp [sb _ _ _ _ (show 0<=h by omega) h3]
 ·simp [sb _ _ _ _ h1 (show l<=((len:Nat):Int) by omega)]
 ·simp [sb _ _ _ _ (show 0<=h by omega) h3,sb _ _ _ _ h1 (show l<=((h.toNat:Nat):Int) by omega)]
theorem zQc {σ : Nat->Value} {w:World} {D:Nat->Prop} {a:Act} (hE:InvE σ w D E a.tmps) {x:Option Operand} {n i:Int} (h:bndE E n x=some i):(x.map a.eval=none/\i=n)\/∃k,x.map a.eval=some (.int k i):=by
 cases x with
 | none=>simp [bndE] at h;exact .inl ⟨rfl,h.symm⟩
 | some y =>
  simp only [bndE] at h
  split at h<;>try simp at h
  rename_i k j hj
  subst h
  obtain ⟨h1,_⟩:=(zBI hE hj).flat_inv
  exact .inr ⟨k,by simp [h1]⟩
theorem zOn {T:Tab G.P} {o:Oper} {t:TypeId} {x:Operand} {lo hi:Option Operand} {s r:List UInt8} {l h:Int} (ho:o.op=.slice t x lo hi none) (hx:ev E x=some (.v (.string ⟨⟨s⟩⟩))) (ht:lku T.bases t=some .string) (hl:bndE E 0 lo=some l)
  (hh:bndE E ((s.length:Nat):Int) hi=some h) (hr:zC3 s l h=some r) {σ : Nat->Value} {φ : Nat->Nat->Prop} {w:World} {a:Act} (hp:Pre' G E S a w σ φ):zB9 G S o σ φ a w (.v (.string ⟨⟨r⟩⟩)):=by
 obtain ⟨h1,_⟩:=(zBI hp.env hx).flat_inv
 obtain ⟨p1,p2,p3,rfl⟩:=zTi hr
 have hb:=zQJ (P:=G.P) (b:=false) (len:=s.length) (cap:=s.length) (w:=w) p1 p2 p3 (zQc hp.env hl) (zQc hp.env hh)
 unfold zB9
 have hsz:(⟨⟨s⟩⟩:ByteArray).size=s.length:=rfl
 have hex:ByteArray.extract ⟨⟨s⟩⟩ l.toNat h.toNat=⟨⟨(s.drop l.toNat).take (h.toNat - l.toNat)⟩⟩:=by
  apply ByteArray.ext
  simp [ByteArray.data_extract,List.extract_eq_take_drop]
 have:(execOp a.eval o).run G.P w=.ok (.value (.string ⟨⟨(s.drop l.toNat).take (h.toNat - l.toNat)⟩⟩)) w:=by
  simp [execOp,ho,h1,Instr.sliceAt,Instr.slice,run_underlying (zEB (T.hbases _ (zA6 ht))),hsz,hb,hex]
 rw [this]
 exact ⟨rfl,.d (.v rfl)⟩
theorem zGE {T:Tab G.P} {o:Oper} {rest:List Oper} {t:TypeId} {x:Operand} {lo hi:Option Operand} {s:List UInt8} {l h:Int} {f:List UInt8->Option ρ} {d:Nat} (ho:o.op=.slice t x lo hi none) (hg:gE all E o=some true) (hx:ev E x=some (.v (.string ⟨⟨s⟩⟩))) (ht:lku T.bases t=some .string)
  (hl:bndE E 0 lo=some l) (hh:bndE E ((s.length:Nat):Int) hi=some h) (hd:o.dst=some d) (hlt:Nat.blt d G.fn.ntmps=true) (k:∀r,zC3 s l h=some r->PO G (f r) all rest K ((d,.v (.string ⟨⟨r⟩⟩))::E) S):PO G (bnd (zC3 s l h) f) all (o::rest) K E S :=
 zGD fun r hr=>zEi hg (fun _ _ _ _ hp=>zOn (T:=T) ho hx ht hl hh hr hp) hd hlt (k r hr)
theorem zLH {T:Tab G.P} {o:Oper} {rest:List Oper} {t:TypeId} {x:Operand} {lo hi:Option Operand} {s:List UInt8} {l h:Int} {f:List UInt8->Option ρ} {d:Nat} (ho:o.op=.slice t x lo hi none) (hg:gE all (zDn (o.looksAt all) E) o=some true) (hx:ev (zDn (o.looksAt all) E) x=some (.v (.string ⟨⟨s⟩⟩))) (ht:lku T.bases t=some .string)
  (hl:bndE (zDn (o.looksAt all) E) 0 lo=some l) (hh:bndE (zDn (o.looksAt all) E) ((s.length:Nat):Int) hi=some h) (hd:o.dst=some d) (hlt:Nat.blt d G.fn.ntmps=true) (k:∀r,zC3 s l h=some r->PD G (f r) all rest K ((d,.v (.string ⟨⟨r⟩⟩))::E) S):PD G (bnd (zC3 s l h) f) all (o::rest) K E S :=
 zLG fun r hr=>zG1 hg (fun _ _ _ _ hp=>zOn (T:=T) ho hx ht hl hh hr hp) hd hlt (k r hr)
def zAS (s:List UInt8):List Int:=s.map fun b=>(b.toNat:Int)
def zEd (l:List Int):List UInt8:=l.map fun n=>UInt8.ofNat n.toNat
theorem zTk {T:Tab G.P} {o:Oper} {rest:List Oper} (enc:Int->List PV) (n:Nat) {src dst e:TypeId} {x:Operand} {s:List UInt8} {z:Nat×Nat} {d:Nat} {f:Unit->Option ρ} {E':Env} {S':Store} (henc:∀i,enc i=[.v (.int .u8 i)]) (ho:o.op=.convert src dst x) (hg:gE all E o=some true) (hx:ev E x=some (.v (.string ⟨⟨s⟩⟩)))
  (hs:lku T.bases src=some .string) (ht:lku T.els dst=some (e,z)) (hb:lku T.bases e=some (.int .u8)) (hbl:Nat.blt e fixE=true) (hd:o.dst=some d) (hlt:Nat.blt d G.fn.ntmps=true) (hn:zEX G n=true) (hE:zE3 n E=some E') (hS:zEc n S=some S')
  (k:PO G (f ()) all rest K ((d,.own n)::E') ((n,.arr (fixE+e) 1 ((zAS s).map enc))::S')):PO G (bnd (zBr 1 s.length) f) all (o::rest) K E S:=by
 refine zGD fun u hu=>zFV hg fun r hr a w ⟨σ,φ,hp⟩=>?_
 have hroom:=zME hu
 obtain ⟨h1,_⟩:=(zBI hp.env hx).flat_inv
 obtain ⟨hel,_⟩:=zC2 (T.hels _ (zA6 ht))
 have hrun:=run_bytes_of_string (P:=G.P) w src dst e ⟨⟨s⟩⟩ (zEB (T.hbases _ (zA6 hs))) hel (zIa (T.hbases _ (zA6 hb)))
 have hsz:(⟨⟨s⟩⟩:ByteArray).size=s.length:=rfl
 rw [hsz] at hrun
 have hge:s.length<=grownCap w s.length 0 e:=grownCap_ge w s.length 0 e
 have hcm:grownCap w s.length 0 e<=maxLen:=grownCap_le_maxLen w s.length 0 e (by simp only [maxLen];omega)
 generalize grownCap w s.length 0 e=cap at *
 obtain ⟨us,hus⟩:∃us:List Value,bytesRow ⟨⟨s⟩⟩ cap=⟨us⟩:=⟨(bytesRow ⟨⟨s⟩⟩ cap).toList,rfl⟩
 have hut:us=(zAS s).map (Value.int .u8)++List.replicate (cap - s.length) (.int .u8 0):=by
  have:us=(bytesRow ⟨⟨s⟩⟩ cap).toList:=by rw [hus]
  rw [this]
  simp [bytesRow,zAS,hsz]
 have hul:us.length=cap:=by rw [hut];simp [zAS];omega
 rw [hus] at hrun
 have hsz2:(⟨us⟩:Array Value).size=us.length:=rfl
 rw [hsz2] at hrun
 have hfl:((zAS s).map enc).flatten=(zAS s).map fun i=>PV.v (.int .u8 i):=by
  rw [show enc=fun i=>[PV.v (.int .u8 i)] from funext henc]
  induction zAS s with
  | nil=>rfl
  | cons i l ih=>simp [ih]
 unfold Oper.wp
 rw [show (execOp a.eval o).run G.P w=.ok (.value (.slice (some ⟨w.heap.size,0,none⟩) s.length cap)) (w.drew.alloc (.cells ⟨us⟩ e (us.length,us.length+1))) by
  simp only [execOp,ho,h1,Sem.run_bind,hrun,Result.andThen_ok];rfl,Oper.upon_value,hd]
 have hlay:=hp.lay (hdr:=.slice (some ⟨w.heap.size,0,none⟩) s.length cap) (w':=w.drew.alloc (.cells ⟨us⟩ e (us.length,us.length+1))) (fp:=fun b=>b=w.heap.size/\0<cap) (k:=.arr (fixE+e) 1 ((zAS s).map enc)) hn hE hS (by simp) (fun b hb=>⟨by simp [hb.1],.inl (by omega)⟩) (fun b hb _=>zGy w.drew _ hb) rfl rfl rfl fun D' hD=>by
  refine ⟨fun row hrow=>?_,?_⟩
  ·obtain ⟨i,_,rfl⟩:=List.mem_map.1 hrow;rw [henc];rfl
  ·rcases Nat.eq_zero_or_pos cap with h0 | h0
   ·have hs0:s=[]:=List.eq_nil_of_length_eq_zero (by omega)
    subst hs0
    exact .inl ⟨rfl,⟨_,by rw [h0];rfl⟩,fun x hx=>by omega⟩
   ·refine .inr ⟨w.heap.size,us,cap,by simp [zAS],fun x=>⟨fun h=>h.1,fun h=>⟨h,h0⟩⟩,by rw [hul,Nat.mul_one],⟨by simpa [zAS] using hge,h0⟩,hcm,⟨(us.length,us.length+1),?_,fun _=>Nat.le_refl _,fun h=>?_⟩,fun i c u hc hu=>?_⟩
    ·have:(fixE+e) % fixE=e:=by rw [Nat.add_mod_left];exact zLt hbl
     rw [this];exact zE2 w.drew _
    ·exfalso
     have:fixE+e<fixE:=by simpa [Nat.blt_eq] using h
     omega
    ·rw [hfl,List.getElem?_map] at hc
     rw [hut,List.getElem?_append_left (by simpa using (Option.map_eq_some_iff.1 hc).elim fun x hx=>(List.getElem?_eq_some_iff.1 hx.1).1),List.getElem?_map] at hu
     obtain ⟨x,hx,rfl⟩:=Option.map_eq_some_iff.1 hc
     rw [hx] at hu
     simp at hu
     subst hu
     exact .v rfl
 refine k r hr _ _ ⟨_,_,hlay.put (zCB hlt) ?_⟩
 have:R (upd σ n (.slice (some ⟨w.heap.size,0,none⟩) s.length cap)) (w.drew.alloc (.cells ⟨us⟩ e (us.length,us.length+1))) (Dof G.X (upd φ n fun b=>b=w.heap.size/\0<cap) (w.drew.alloc (.cells ⟨us⟩ e (us.length,us.length+1))) ((n,.arr (fixE+e) 1 ((zAS s).map enc))::S')) (.own n) (upd σ n (.slice (some ⟨w.heap.size,0,none⟩) s.length cap) n):=.own (by rw [zBw];rfl)
 rw [zBw] at this
 exact this
theorem zLS:∀(l:List Int) (r:ByteArray),l.foldl (fun r n=>r.push (UInt8.ofNat n.toNat)) r=⟨r.data++(zEd l).toArray⟩
 | [],r=>by simp [zEd]
 | n::l,r=>by
  simp only [List.foldl_cons]
  rw [zLS l]
  simp [ByteArray.push,zEd]
theorem zTG {T:Tab G.P} {o:Oper} (enc:Int->List PV) (xs:List Int) {src dst e:TypeId} {x:Operand} {p:PV} {z:Nat} (henc:∀i,enc i=[.v (.int .u8 i)]) (ho:o.op=.convert src dst x) (hx:ev E x=some p) (hsrc:srcE S p=some (1,xs.map enc))
  (hs:lku T.bases dst=some .string) (ht:lku T.els src=some (e,1,z)) (hb:lku T.bases e=some (.int .u8)) {σ : Nat->Value} {φ : Nat->Nat->Prop} {w:World} {a:Act} (hp:Pre' G E S a w σ φ):zB9 G S o σ φ a w (.v (.string ⟨⟨zEd xs⟩⟩)):=by
 obtain ⟨g1,g2⟩:=zU2 hp.inv hsrc (zBI hp.env hx)
 obtain ⟨hel,_⟩:=zC2 (T.hels _ (zA6 ht))
 have hfl:(xs.map enc).flatten=xs.map fun i=>PV.v (.int .u8 i):=by
  rw [show enc=fun i=>[PV.v (.int .u8 i)] from funext henc]
  clear hsrc g1 g2
  induction xs with
  | nil=>rfl
  | cons i l ih=>simp [ih]
 unfold zB9
 have key:∀r:ByteArray,(Conv.bytesToString (a.eval x)).run G.P w=.ok (.string r) w->(∃ao l c,a.eval x=.slice ao l c)->(execOp a.eval o).run G.P w=.ok (.value (.string r)) w:=by
  rintro r hr ⟨ao,l,c,hv⟩
  rw [hv] at hr
  simp only [execOp,ho,hv,Sem.run_bind,run_convert_bytes_string w src dst e ao l c hel (zIa (T.hbases _ (zA6 hb))) (zEB (T.hbases _ (zA6 hs))),hr,Result.andThen_ok]
  rfl
 rcases g2 with ⟨h1,c,h2⟩ | ⟨ad,c,news,h2,h3,h4,h5⟩
 ·have hx0:xs=[]:=by simpa using h1
  subst hx0
  rw [key ByteArray.empty (by rw [h2];rfl) ⟨_,_,_,h2⟩]
  exact ⟨rfl,.d (.v rfl)⟩
 ·rw [List.length_map] at h2 h3
  have hn:news=xs.map (Value.int .u8):=by
   apply List.ext_getElem?
   intro i
   rcases Nat.lt_or_ge i xs.length with h | h
   ·have hi:i<news.length:=by rw [h3];omega
    have:=h5 i _ news[i] (by rw [hfl,List.getElem?_map,List.getElem?_eq_getElem h];rfl) (List.getElem?_eq_getElem hi)
    rw [List.getElem?_eq_getElem hi,List.getElem?_map,List.getElem?_eq_getElem h]
    rw [(R.d (σ := σ) this).flat_inv.1];rfl
   ·rw [List.getElem?_eq_none (by rw [h3];omega),List.getElem?_eq_none (by simpa using h)]
  have hld:=run_loadCells_list (P:=G.P) w ad news h4
  rw [key _ (by rw [h2];exact run_bytesToString w ad xs.length c xs (by rw [<- hn,show xs.length=news.length by rw [hn];simp];exact hld)) ⟨_,_,_,h2⟩,zLS]
  exact ⟨rfl,by simpa using R.d (.v rfl)⟩
theorem zPG {T:Tab G.P} {o:Oper} {rest:List Oper} (enc:Int->List PV) (xs:List Int) {src dst e:TypeId} {x:Operand} {p:PV} {z d:Nat} (henc:∀i,enc i=[.v (.int .u8 i)]) (ho:o.op=.convert src dst x) (hg:gE all E o=some true) (hx:ev E x=some p) (hsrc:srcE S p=some (1,xs.map enc))
  (hs:lku T.bases dst=some .string) (ht:lku T.els src=some (e,1,z)) (hb:lku T.bases e=some (.int .u8)) (hd:o.dst=some d) (hlt:Nat.blt d G.fn.ntmps=true) (k:PO G m all rest K ((d,.v (.string ⟨⟨zEd xs⟩⟩))::E) S):PO G m all (o::rest) K E S :=
 zEi hg (fun _ _ _ _ hp=>zTG (T:=T) enc xs henc ho hx hsrc hs ht hb hp) hd hlt k
end
end Go.Pw
