/- Own slices whose last row bears names; values that are one of a few. No program is named here. -/
import Derived.Test.YtoboimmgglnjfaaGreatDoorNst
namespace Go.Pw
open Go
section
variable {ρ : Type} {G:Ctx ρ} {m:Option ρ} {K:List (Kont ρ)} {E:Env} {S:Store} {all:Array Oper}
theorem zVq {n e size:Nat} {rows:List (List PV)} (last:List PV) {S':Store} (hb:lkS S n=some (.arr e size rows)) (he:Nat.blt e fixE=true) (hl:Nat.beq last.length size=true) (hS:setS n (.box e (pfx size rows false::last)) S=some S') {a:Act} {w:World}:Pre G E S a w->Pre G E S' a w:=by
 rintro ⟨σ,φ,hp⟩
 have hm:=zBN hb
 refine ⟨σ,φ,hp.turn hm hS rfl (fun _ _=>rfl) rfl rfl rfl fun D' hD=>?_⟩
 obtain ⟨h0,h⟩:=hp.inv.ok n _ hm
 refine .inr ⟨size,false,rows,last,rfl,Nat.eq_of_beq_eq_true hl,h0,?_⟩
 rcases h with ⟨h1,h2,h3⟩ | ⟨b,us,cap,h1,h2,h3,⟨h4,h4'⟩,h5,⟨fr,h6,_,h6'⟩,h7⟩
 ·exact .inl ⟨h1,rfl,h2,h3⟩
 ·have:=h6' he;subst this
  exact .inr ⟨b,us,cap,by simpa using h1,h2,h3,⟨by simpa using h4,h4'⟩,h5,h6,fun i c u hc hu=>(h7 i c u hc hu).mono hD,fun h=>by cases h⟩
theorem zMn {size:Nat} {rows:List (List PV)} {last:List PV} (h0:∀row:List PV,row∈rows->row.length=size) (k:Nat):(rows++[last]).flatten[rows.length*size+k]? = last[k]? := by
 have hl:rows.flatten.length=rows.length*size:=zFN h0
 rw [List.flatten_append,List.getElem?_append_right (by omega),hl,Nat.add_sub_cancel_left]
 simp
theorem zPy {rows:List (List PV)} {last:List PV} {i:Nat} {c:PV} (h:rows.flatten[i]? = some c):(rows++[last]).flatten[i]? = some c:=by
 have:=(List.getElem?_eq_some_iff.1 h).1
 rw [List.flatten_append,List.getElem?_append_left this,h]
theorem zR3 {n e size:Nat} {rows:List (List PV)} {last:List PV} {S':Store} (hb:lkS S n=some (.arr e size (rows++[last]))) (he:Nat.blt e fixE=true) (hS:setS n (.box e (pfx size rows true::last)) S=some S') {a:Act} {w:World}:Pre G E S a w->Pre G E S' a w:=by
 rintro ⟨σ,φ,hp⟩
 have hm:=zBN hb
 refine ⟨σ,φ,hp.turn hm hS rfl (fun _ _=>rfl) rfl rfl rfl fun D' hD=>?_⟩
 obtain ⟨h0,h⟩:=hp.inv.ok n _ hm
 have h00:∀row:List PV,row∈rows->row.length=size:=fun row hr=>h0 row (by simp [hr])
 refine .inr ⟨size,true,rows,last,rfl,h0 last (by simp),h00,?_⟩
 rcases h with ⟨h1,h2,h3⟩ | ⟨b,us,cap,h1,h2,h3,⟨h4,h4'⟩,h5,⟨fr,h6,_,h6'⟩,h7⟩
 ·simp at h1
 ·have:=h6' he;subst this
  exact .inr ⟨b,us,cap,by simpa using h1,h2,h3,⟨by simpa using h4,h4'⟩,h5,h6,fun i c u hc hu=>(h7 i c u (zPy hc) hu).mono hD,fun _ k c u hc hu=>.d ((h7 _ c u ((zMn h00 k).trans hc) hu).mono hD)⟩
theorem zVp {n e size:Nat} {rows:List (List PV)} {act:Bool} {last:List PV} {S':Store} (hb:lkS S n=some (.box e (pfx size rows act::last))) (hdat:last.all datP=true) (hS:setS n (.arr e size (rows++if act then [last] else [])) S=some S') {a:Act} {w:World}:Pre G E S a w->Pre G E S' a w:=by
 rintro ⟨σ,φ,hp⟩
 have hm:=zBN hb
 refine ⟨σ,φ,hp.turn hm hS rfl (fun _ _=>rfl) rfl rfl rfl fun D' hD=>?_⟩
 obtain ⟨size',act',rows',last',he',hl,h00,h⟩:=zU4 (X:=True) (by
  rcases hp.inv.ok n _ hm with ⟨b,us,_,_,h3,h4⟩ | h
  ·exact .inl ⟨b,us,trivial,h3,h4⟩
  ·exact .inr h)
 simp only [List.cons.injEq,PV.tup.injEq,PV.sl.injEq,PV.v.injEq,Value.bool.injEq] at he'
 obtain ⟨⟨_,⟨rfl,_,rfl⟩,rfl,_⟩,rfl⟩:=he'
 have hrow:∀row∈(rows++if act then [last] else []),row.length=size:=fun row hr=>by
  rcases List.mem_append.1 hr with hr | hr
  ·exact h00 row hr
  ·cases act<;>simp at hr
   subst hr;exact hl
 refine ⟨hrow,?_⟩
 rcases h with ⟨rfl,rfl,h2,h3⟩ | ⟨b,us,cap,h1,h2,h3,⟨h4,h4'⟩,h5,h6,h7,h8⟩
 ·exact .inl ⟨rfl,h2,h3⟩
 ·refine .inr ⟨b,us,cap,?_,h2,h3,⟨?_,h4'⟩,h5,⟨(0,0),h6,by simp,fun _=>rfl⟩,fun i c u hc hu=>?_⟩
  ·rw [h1];cases act<;>simp
  ·cases act<;>simpa using h4
  ·by_cases hi:i<rows.flatten.length
   ·rw [List.flatten_append,List.getElem?_append_left hi] at hc
    exact (h7 i c u hc hu).mono hD
   ·cases act with
    | false=>simp at hc;have:=(List.getElem?_eq_some_iff.1 hc).1;omega
    | true =>
     have hlen:rows.flatten.length=rows.length*size:=zFN h00
     obtain ⟨k,rfl⟩:∃k,i=rows.length*size+k:=⟨i - rows.length*size,by omega⟩
     have hc':last[k]? = some c:=by rw [<- zMn h00 k];exact hc
     exact ((h8 rfl k c u hc' hu).toRD (List.all_eq_true.1 hdat c (List.mem_of_getElem? hc'))).mono hD
theorem zLd {σ : Nat->Value} {w:World} {D:Nat->Prop} {hdr:Value} {fp:Nat->Prop} {e size:Nat} {rows:List (List PV)} {act:Bool} {last:List PV} (h:BlkOk σ w D hdr fp (.box e (pfx size rows act::last))) :
  last.length=size/\(∀row:List PV,row∈rows->row.length=size)/\((rows=[]/\act=false/\(∃ao,hdr=.slice ao 0 0)/\∀x,¬fp x) \/
   ∃(b:Nat) (us:List Value) (cap:Nat),hdr=.slice (some ⟨b,0,none⟩) (rows.length+(if act then 1 else 0)) cap/\(∀x,fp x↔x=b)/\us.length=cap*size/\(rows.length+(if act then 1 else 0)<=cap/\0<cap)/\cap<=maxLen /\
    w.heap[b]? = some (.cells ⟨us⟩ (e % fixE) (0,0))/\(∀(i:Nat) (c:PV) (u:Value),rows.flatten[i]? = some c->us[i]? = some u->RD w D c u) /\
    (act=true->∀(k:Nat) (c:PV) (u:Value),last[k]? = some c->us[rows.length*size+k]? = some u->R σ w D c u)):=by
 obtain ⟨size',act',rows',last',he',hl,h00,h⟩:=zU4 (X:=True) (by
  rcases h with ⟨b,us,_,_,h3,h4⟩ | h
  ·exact .inl ⟨b,us,trivial,h3,h4⟩
  ·exact .inr h)
 simp only [List.cons.injEq,PV.tup.injEq,PV.sl.injEq,PV.v.injEq,Value.bool.injEq] at he'
 obtain ⟨⟨_,⟨rfl,_,rfl⟩,rfl,_⟩,rfl⟩:=he'
 exact ⟨hl,h00,h⟩
theorem zFz {T:Tab G.P} {o:Oper} {rest:List Oper} {args:Array Operand} {tys:Array TypeId} {t:TypeId} {x:Operand} {n e size:Nat} {rows:List (List PV)} {act:Bool} {last:List PV} {z:Nat×Nat×Nat} {d l:Nat}
  (ho:o.op=.call ⟨.builtin .len,args,tys⟩) (h1:args.toList=[x]) (h2:tys.toList=[t]) (hg:gE all E o=some true) (hx:ev E x=some (.own n)) (hb:lkS S n=some (.box e (pfx size rows act::last))) (ht:lku T.els t=some z) (hl:rows.length=l)
  (hd:o.dst=some d) (hlt:Nat.blt d G.fn.ntmps=true) (k:PO G m all rest K ((d,.v (.int .i64 ((l+(if act then 1 else 0):Nat):Int)))::E) S):PO G m all (o::rest) K E S:=by
 refine zFV hg fun r hr a w ⟨σ,φ,hp⟩=>?_
 have hxv:a.eval x = σ n:=by
  have:=zBI hp.env hx
  generalize a.eval x=v at this
  cases this with
  | own=>rfl
  | d hd=>cases hd
 have hs:∃ao c,σ n=.slice ao (l+(if act then 1 else 0)) c:=by
  obtain ⟨_,_,⟨g1,g3,⟨ao,g2⟩,_⟩ | ⟨b,us,cap,g1,_⟩⟩:=zLd (hp.inv.ok n _ (zBN hb))
  ·subst g1 g3;simp at hl;subst hl;exact ⟨ao,0,g2⟩
  ·exact ⟨_,_,by rw [g1,hl]⟩
 obtain ⟨ao,c,hs⟩:=hs
 obtain ⟨args⟩:=args
 obtain ⟨tys⟩:=tys
 simp only at h1 h2
 subst h1 h2
 have hrun:(execOp a.eval o).run G.P w=.ok (.value (.int .i64 ((l+(if act then 1 else 0):Nat):Int))) w:=by
  simp [execOp,ho,resolve,invoke,builtin,hxv,hs,Builtin.len_,run_underlying (zC2 (T.hels _ (zA6 ht))).1,goInt]
 unfold Oper.wp
 rw [hrun,Oper.upon_value,hd]
 exact k r hr _ _ ⟨σ,φ,hp.put (zCB hlt) (.d (.v rfl))⟩
def zKm (l:Nat) (i:Int):Option Unit:=if i=(l:Int) then some () else none
theorem zUM {l:Nat} {i:Int} {u:Unit} (h:zKm l i=some u):i=(l:Int):=by
 unfold zKm at h
 split at h
 ·assumption
 ·cases h
theorem zI9 {T:Tab G.P} {f:Unit->Option ρ} {o:Oper} {rest:List Oper} {t:TypeId} {x ix:Operand} {n size e by_ e':Nat} {rows:List (List PV)} {last:List PV} {l:Nat} {kk:IntKind} {i:Int} {d:Nat}
  (hrl:rows.length=l) (ho:o.op=.indexAddr t x ix) (hg:gE all E o=some true) (hx:ev E x=some (.own n)) (hb:lkS S n=some (.box e' (pfx size rows true::last))) (hi:ev E ix=some (.v (.int kk i))) (ht:lku T.els t=some (e,size,by_))
  (hd:o.dst=some d) (hlt:Nat.blt d G.fn.ntmps=true) (k:PO G (f ()) all rest K ((d,.ela n size l 0)::E) S):PO G (bnd (zKm l i) f) all (o::rest) K E S:=by
 refine zGD fun y hy=>zFV hg fun r hr a w ⟨σ,φ,hp⟩=>?_
 obtain rfl:=zUM hy
 obtain ⟨hel,inf,hinf,hsz,_⟩:=zC2 (T.hels _ (zA6 ht))
 obtain ⟨hiv,_⟩:=(zBI hp.env hi).flat_inv
 have hxv:a.eval x = σ n:=by
  have:=zBI hp.env hx
  generalize a.eval x=v at this
  cases this with
  | own=>rfl
  | d hd=>cases hd
 obtain ⟨_,_,⟨_,g3,_⟩ | ⟨b,us,cap,h3,_⟩⟩:=zLd (hp.inv.ok n _ (zBN hb))
 ·cases g3
 rw [hrl] at h3
 simp only [if_true] at h3
 have hrun:(execOp a.eval o).run G.P w=.ok (.value (.pointer (some ⟨b,l*size,none⟩))) w:=by
  simp [execOp,ho,hxv,h3,hiv,Instr.indexAt,asIntOf,run_underlying hel,sizeOf,typeInfo,hinf,hsz,zD1]
 unfold Oper.wp
 rw [hrun,Oper.upon_value,hd]
 exact k r hr _ _ ⟨σ,φ,hp.put (zCB hlt) (.ela (off:=0) (zHj h3))⟩
theorem zCo {T:Tab G.P} {o:Oper} {rest:List Oper} {t:TypeId} {x:Operand} {n size i off e sz:Nat} {g:Bool} {q:PV} {d:Nat} {rows:List (List PV)} {last:List PV} (hrl:rows.length=i) (ho:o.op=.load t x) (hg:gE all E o=some true) (hx:ev E x=some (.ela n size i off))
  (hb:lkS S n=some (.box e (pfx size rows true::last))) (ht:lku T.tys t=some (g,sz)) (hq:zIG g sz (last.drop off)=some q) (hd:o.dst=some d) (hlt:Nat.blt d G.fn.ntmps=true) (k:PO G m all rest K ((d,q)::E) S):PO G m all (o::rest) K E S:=by
 refine zEi hg (fun σ φ w a hp=>?_) hd hlt k
 obtain ⟨hl,_,⟨_,g3,_⟩ | ⟨b,us,cap,g1,g2,g3,g4,g5,g6,g7,g8⟩⟩:=zLd (hp.inv.ok n _ (zBN hb))
 ·cases g3
 have hxv:a.eval x=.pointer (some ⟨b,i*size+off,none⟩):=by
  have:=zBI hp.env hx
  generalize a.eval x=u at this
  cases this with
  | ela hs=>rw [zHj g1] at hs;simp at hs;subst hs;rfl
  | d hd=>cases hd
 subst hrl
 obtain ⟨z,h1,h2⟩:=zM0 (P:=G.P) (σ := σ) (w:=w) (D:=Dof G.X φ w S) (T.htys _ (zA6 ht)) (ad:=⟨b,rows.length*size+off,none⟩) (fun j c hc=>by
  rw [List.getElem?_drop] at hc
  have hlt:=(List.getElem?_eq_some_iff.1 hc).1
  have hle:(rows.length+1)*size<=cap*size:=Nat.mul_le_mul_right _ (by simpa using g4.1)
  rw [Nat.succ_mul] at hle
  have hu:=List.getElem?_eq_getElem (show rows.length*size+(off+j)<us.length by omega)
  exact ⟨_,by rw [zD1,zCY g6,Nat.add_assoc];exact hu,g8 rfl _ c _ hc hu⟩) hq
 unfold zB9
 rw [show (execOp a.eval o).run G.P w=.ok (.value z) w by simp [execOp,ho,hxv,h1]]
 exact ⟨rfl,h2⟩
theorem zFW {T:Tab G.P} {o:Oper} {rest:List Oper} {t:TypeId} {x y:Operand} {n size i off e sz:Nat} {g:Bool} {p:PV} {cs last last':List PV} {rows:List (List PV)} {S':Store}
  (hrl:rows.length=i) (ho:o.op=.store t x y) (hg:gE all E o=some true) (hx:ev E x=some (.ela n size i off)) (hb:lkS S n=some (.box e (pfx size rows true::last))) (hy:ev E y=some p) (hcs:zJI p=some cs) (hone:cs.all zGS=true)
  (ht:lku T.tys t=some (g,sz)) (hsz:Nat.beq cs.length sz=true) (hov:ovr last off cs=some last') (hd:o.dst=none) (hS:setS n (.box e (pfx size rows true::last')) S=some S') (k:PO G m all rest K E S'):PO G m all (o::rest) K E S:=by
 refine zFV hg fun r hr a w ⟨σ,φ,hp⟩=>?_
 have hmem:=zBN hb
 have hsz:=Nat.eq_of_beq_eq_true hsz
 obtain ⟨hl,h00,⟨_,g3,_⟩ | ⟨b,us0,cap,g1,g2,g3,g4,g5,g6,g7,g8⟩⟩:=zLd (hp.inv.ok n _ hmem)
 ·cases g3
 have hxv:a.eval x=.pointer (some ⟨b,i*size+off,none⟩):=by
  have:=zBI hp.env hx
  generalize a.eval x=u at this
  cases this with
  | ela hs=>rw [zHj g1] at hs;simp at hs;subst hs;rfl
  | d hd=>cases hd
 subst hrl
 obtain ⟨us,c1,c2,c3⟩:=zGl hcs (zBI hp.env hy)
 obtain ⟨o1,o2,o3⟩:=zLF hov
 have hle:(rows.length+1)*size<=cap*size:=Nat.mul_le_mul_right _ (by simpa using g4.1)
 rw [Nat.succ_mul] at hle
 obtain ⟨w',cur',s1,s2,s3,s4,s5,s6,s7,s8,s9⟩:=zHq (P:=G.P) b (rows.length*size+off) (e % fixE) (0,0) us 0 us0 w g6 (by simp) (by omega) (zNb c2 c3 hone)
 have hrun:(execOp a.eval o).run G.P w=.ok .skip w':=by
  simp only [execOp,ho,hxv,Sem.run_bind,zIL (T.htys _ (zA6 ht)) c1 (c2.trans hsz),s1,Result.andThen_ok,Sem.run_pure]
 unfold Oper.wp
 rw [hrun,Oper.upon_skip,hd]
 refine k r hr _ _ ⟨σ,φ,hp.turn hmem hS s5 (fun c hc=>s6 c fun e=>hc ((g2 c).2 e)) s7 s8 s9 fun D' hD=>.inr ⟨size,true,rows,last',rfl,by rw [o1,hl],h00,.inr ⟨b,cur',cap,g1,g2,by rw [s3,g3],g4,g5,s2,fun j c u hc hu=>?_,fun _ j c u hc hu=>?_⟩⟩⟩
 ·have hj:=(List.getElem?_eq_some_iff.1 hc).1
  rw [zFN h00] at hj
  rw [s4 j,if_neg (by simp only [Nat.add_zero,c2];omega)] at hu
  exact (g7 j c u hc hu).mono hD
 ·rw [o3 j] at hc
  rw [s4 (rows.length*size+j)] at hu
  simp only [Nat.add_zero,c2] at hu
  split at hc
  ·rename_i hin
   rw [if_pos (by omega),show rows.length*size+j - (rows.length*size+off)=j - off by omega] at hu
   exact (c3 _ c u hc hu).mono hD
  ·rw [if_neg (by omega)] at hu
   exact (g8 rfl j c u hc hu).mono hD
def zNT:PV->PV
 | .sel k alts=>(match alts[k]? with
  | some q=>q
  | none=>.junk)
 | p=>p
def zJV:Blk->Blk
 | .box ty cells=>.box ty (cells.map zNT)
 | b=>b
theorem R.unsel {σ : Nat->Value} {w:World} {D:Nat->Prop} {p:PV} {u:Value} (r:R σ w D p u):R σ w D (zNT p) u:=by
 cases p<;>try exact r
 rename_i k alts
 cases r with
 | d hd=>cases hd
 | sel h hr=>simp only [zNT,h];exact hr
theorem zRc (f:PV->PV):∀(E:Env) (t:Nat),lk (E.map fun x=>(x.1,f x.2)) t=(lk E t).map f
 | [],t=>rfl
 | (k,p)::E,t=>by simp only [List.map_cons,lk];cases Nat.beq k t<;>simp [zRc f E t]
theorem zR4 {E':Env} {S':Store} (hE:(E.map fun x=>(x.1,zNT x.2))=E') (hS:(S.map fun x=>(x.1,zJV x.2))=S') {a:Act} {w:World}:Pre G E S a w->Pre G E' S' a w:=by
 subst hE hS
 rintro ⟨σ,φ,hp⟩
 have hm:∀n k,(n,k)∈(S.map fun x=>(x.1,zJV x.2))->∃k0,(n,k0)∈S/\k=zJV k0:=fun n k h=>by
  obtain ⟨x,h1,h2⟩:=List.mem_map.1 h
  cases h2;exact ⟨x.2,h1,rfl⟩
 have hn:(S.map fun x=>(x.1,zJV x.2)).map (·.1)=S.map (·.1):=by simp
 have hf:∀b,foot φ (S.map fun x=>(x.1,zJV x.2)) b↔foot φ S b:=fun b=>by
  constructor
  ·rintro ⟨n,k,h1,h2⟩
   obtain ⟨k0,h3,_⟩:=hm n k h1
   exact ⟨n,k0,h3,h2⟩
  ·rintro ⟨n,k,h1,h2⟩
   exact ⟨n,zJV k,List.mem_map.2 ⟨(n,k),h1,rfl⟩,h2⟩
 have hD:∀b,Dof G.X φ w S b->Dof G.X φ w (S.map fun x=>(x.1,zJV x.2)) b:=fun b ⟨h1,h2,h3⟩=>⟨h1,h2,fun n k h=>let ⟨k0,h4,_⟩:=hm n k h;h3 n k0 h4⟩
 refine ⟨σ,φ,{ hp with env:=fun t p ht=>?_,inv:=⟨by rw [hn];exact hp.inv.nodup,hp.inv.xlt,fun b hb=>hp.inv.lt b ((hf b).1 hb),fun n m k l h1 h2=>?_,fun n k h=>?_⟩,new:=fun b hb=>hp.new b ((hf b).1 hb) }⟩
 ·rw [zRc] at ht
  obtain ⟨p0,h1,rfl⟩:=Option.map_eq_some_iff.1 ht
  obtain ⟨u,hu,hr⟩:=hp.env t p0 h1
  exact ⟨u,hu,(hr.mono fun b hb=>⟨hD b hb,rfl⟩).unsel⟩
 ·obtain ⟨k0,h3,_⟩:=hm n k h1
  obtain ⟨l0,h4,_⟩:=hm m l h2
  exact hp.inv.disj n m k0 l0 h3 h4
 ·obtain ⟨k0,h3,rfl⟩:=hm n k h
  have h4:=(hp.inv.ok n k0 h3).mono hD
  cases k0 with
  | box ty cells =>
   rcases h4 with ⟨b,us,g1,g2,g3,g4,g5⟩ | hw
   ·refine .inl ⟨b,us,g1,g2,by simpa using g3,g4,fun i c u hc hu=>?_⟩
    rw [List.getElem?_map] at hc
    obtain ⟨c0,h5,rfl⟩:=Option.map_eq_some_iff.1 hc
    exact (g5 i c0 u h5 hu).unsel
   ·refine .inr (hw.map (by simp) (fun s r x h=>by rw [List.getElem?_map,h];rfl) (fun i c c' u h5 h6 hr=>?_) (fun _ _ r=>r) fun _ _=>rfl)
    rw [List.getElem?_map,h5] at h6
    simp only [Option.map_some,Option.some.injEq] at h6
    subst h6;exact hr.unsel
  | _=>exact h4
theorem zJu {c:Code} {E':Env} {S':Store} (hE:(E.map fun x=>(x.1,zNT x.2))=E') (hS:(S.map fun x=>(x.1,zJV x.2))=S') (k:PW G m c K E' S'):PW G m c K E S:=fun r hr a w hp=>k r hr a w (zR4 hE hS hp)
def sel4 {α : Type} (k:Nat) (a b c d:Option α):Option α := match k with
 | 0=>a
 | 1=>b
 | 2=>c
 | 3=>d
 | _=>none
theorem zVy {c:Code} {ma mb mc md:Option ρ} (Ef:Nat->Env) (Sf:Nat->Store) (k:Nat) (h0:PW G ma c K (Ef 0) (Sf 0)) (h1:PW G mb c K (Ef 1) (Sf 1)) (h2:PW G mc c K (Ef 2) (Sf 2)) (h3:PW G md c K (Ef 3) (Sf 3)):PW G (sel4 k ma mb mc md) c K (Ef k) (Sf k):=by
 intro r hr a w hp
 match k,hr,hp with
 | 0,hr,hp=>exact h0 r hr a w hp
 | 1,hr,hp=>exact h1 r hr a w hp
 | 2,hr,hp=>exact h2 r hr a w hp
 | 3,hr,hp=>exact h3 r hr a w hp
 | _+4,hr,_=>cases hr
theorem zPL {c:Code} {f:Unit->Option ρ} (Ef:Bool->Env) (Sf:Bool->Store) (b:Bool) (h:PW G (f ()) c K (Ef true) (Sf true)):PW G (bnd (zJc b) f) c K (Ef b) (Sf b):=by
 cases b with
 | true=>exact h
 | false=>intro r hr;cases hr
theorem zUN {α : Type} (enc : α -> List PV) (xs:List α) (x : α) (act:Bool):(xs.map enc++if act then [enc x] else [])=(xs++if act then [x] else []).map enc:=by cases act<;>simp
theorem zPI {α : Type} (n:Nat) (enc : α -> List PV) (xs:List α) (x : α) {e size:Nat} {act:Bool} {last:List PV} {S':Store} (hb:lkS S n=some (.box e (pfx size (xs.map enc) act::last))) (hl:last=enc x) (hdat:last.all datP=true)
  (hS:setS n (.arr e size ((xs++if act then [x] else []).map enc)) S=some S') {a:Act} {w:World}:Pre G E S a w->Pre G E S' a w :=
 zVp hb hdat (by subst hl;rw [zUN];exact hS)
theorem zRz {α : Type} {ops:List Oper} (n:Nat) (enc : α -> List PV) (xs:List α) (x : α) {e size:Nat} {act:Bool} {last:List PV} {S':Store} (hb:lkS S n=some (.box e (pfx size (xs.map enc) act::last))) (hl:last=enc x) (hdat:last.all datP=true)
  (hS:setS n (.arr e size ((xs++if act then [x] else []).map enc)) S=some S') (k:PO G m all ops K E S'):PO G m all ops K E S:=fun r hr a w hp=>k r hr a w (zPI n enc xs x hb hl hdat hS hp)
theorem zUy {α : Type} {c:Code} (n:Nat) (enc : α -> List PV) (xs:List α) (x : α) {e size:Nat} {act:Bool} {last:List PV} {S':Store} (hb:lkS S n=some (.box e (pfx size (xs.map enc) act::last))) (hl:last=enc x) (hdat:last.all datP=true)
  (hS:setS n (.arr e size ((xs++if act then [x] else []).map enc)) S=some S') (k:PW G m c K E S'):PW G m c K E S:=fun r hr a w hp=>k r hr a w (zPI n enc xs x hb hl hdat hS hp)
theorem zR0 {ops:List Oper} (n:Nat) {e size:Nat} {rows:List (List PV)} (last:List PV) {S':Store} (hb:lkS S n=some (.arr e size rows)) (he:Nat.blt e fixE=true) (hl:Nat.beq last.length size=true) (hS:setS n (.box e (pfx size rows false::last)) S=some S') (k:PO G m all ops K E S'):PO G m all ops K E S :=
 fun r hr a w hp=>k r hr a w (zVq last hb he hl hS hp)
theorem zPF {ops:List Oper} (n:Nat) {e size:Nat} {rows:List (List PV)} {last:List PV} {S':Store} (hb:lkS S n=some (.arr e size (rows++[last]))) (he:Nat.blt e fixE=true) (hS:setS n (.box e (pfx size rows true::last)) S=some S') (k:PO G m all ops K E S'):PO G m all ops K E S :=
 fun r hr a w hp=>k r hr a w (zR3 hb he hS hp)
theorem zGp {ops:List Oper} (n e size:Nat) {E':Env} {S':Store} (hn:zEX G n=true) (hE:zE3 n E=some E') (hS:zEc n S=some S') (k:PO G m all ops K E' ((n,.arr e size [])::S')):PO G m all ops K E S:=fun r hr a w ⟨σ,φ,hp⟩ =>
 k r hr a w ⟨_,_,hp.lay (w':=w) (k:=.arr e size []) (hdr:=.slice none 0 0) (fp:=fun _=>False) hn hE hS (Nat.le_refl _) (fun b hb=>hb.elim) (fun _ _ _=>rfl) rfl rfl rfl fun D' hD=>⟨by simp,.inl ⟨rfl,⟨_,rfl⟩,fun x h=>h⟩⟩⟩
theorem zIm {T:Tab G.P} {o:Oper} {rest:List Oper} {f:Unit->Option ρ} (rows news:List (List PV)) (L:Nat) {args:Array Operand} {tys:Array TypeId} {t n e size by_:Nat} {x y:Operand} {q:PV} {z:Value} {d:Nat}
  {E':Env} {S':Store} (hL:rows.length=L) (he:Nat.blt e fixE=true) (ho:o.op=.call ⟨.builtin .append,args,tys⟩) (h1:args.toList=[x,y]) (h2:tys.toList=[t,t]) (hg:gE all E o=some true) (hx:ev E x=some (.own n)) (hb:lkS S n=some (.arr e size rows))
  (hy:ev E y=some q) (hs:srcE S q=some (size,news)) (ht:lku T.els t=some (e,size,by_)) (hz:lku T.zeros e=some z) (hzs:z.cells.size=size) (hs0:Nat.blt 0 size=true) (hb0:Nat.blt 0 by_=true)
  (hone:(news.all fun r=>r.all zGS)=true) (hd:o.dst=some d) (hlt:Nat.blt d G.fn.ntmps=true) (hn:zEX G n=true) (hE:zE3 n E=some E') (hS:zEc n S=some S')
  (k:PO G (f ()) all rest K ((d,.own n)::E') ((n,.arr e size (rows++news))::S')):PO G (bnd (zBr by_ (L+news.length)) f) all (o::rest) K E S:=by
 subst hL
 refine zAv (T:=T) id rows news he ho h1 h2 hg hx (by simpa using hb) hy (by simpa using hs) ht hz hzs hs0 hb0 (fun r hr=>List.all_eq_true.1 hone r (by simpa using hr)) hd hlt hn hE hS ?_
 simpa using k
theorem zP4 {n:Nat}:∀{cs cs':List PV},zGz n cs=some cs'->∀c∈cs',hasN n c=false:=fun {cs cs'} h c hc=>by
 obtain ⟨i,hi,rfl⟩:=List.mem_iff_getElem.1 hc
 have:=(zKO h).2 i
 rw [List.getElem?_eq_getElem hi] at this
 cases h0:cs[i]? with
 | none=>rw [h0] at this;cases this
 | some c0 =>
  rw [h0] at this
  simp only [Option.map_some,Option.some.injEq] at this
  cases hn:hasN n c0
  ·rw [hn] at this;simp at this;rw [this];exact hn
  ·rw [hn] at this;simp at this;rw [this];rfl
theorem zK8 {n:Nat} {S S':Store} (h:zEc n S=some S'):∀(x:Nat) {ty:Nat} (cells:List PV),(x,Blk.box ty cells)∈S'->∀(i:Nat) (c:PV),cells[i]? = some c->∀y∈names c,y≠n:=fun x ty cells hm i c hc y hy=>by
 obtain ⟨_,k0,_,h1⟩:=zHQ h x _ hm
 rcases h1 with ⟨_,h2⟩ | ⟨ty',cells0,cells',_,h3,h4⟩
 ·exact absurd rfl (h2 ty cells)
 ·cases h3
  exact zIE (zP4 h4 c (List.mem_of_getElem? hc)) y hy
theorem zK7 {n:Nat} {E E':Env} (h:zE3 n E=some E'):∀(t:Nat) (p:PV),lk E' t=some p->∀y∈names p,y≠n:=fun t p hp y hy=>by
 rw [zIf h] at hp
 obtain ⟨q,h1,h2⟩:=Option.map_eq_some_iff.1 hp
 cases hn:hasN n q
 ·rw [hn] at h2;simp at h2;subst h2;exact zIE hn y hy
 ·rw [hn] at h2;simp at h2;subst h2;simp [names] at hy
theorem zOU {S:Store} {m:Nat} (h:S.any (fun x=>Nat.beq x.1 m)=false):∀x k,(x,k)∈S->x≠m:=fun x k hm e=>by
 subst e
 rw [List.any_eq_false] at h
 exact h _ hm (by simp)
theorem zRR {m:Nat} (h:zEX G m=true):∀x∈G.N0,x≠m:=fun x hx e=>by
 subst e
 unfold zEX at h
 rw [any_beq.2 hx] at h
 cases h
theorem zR1 (n m t:Nat) {S':Store} (ht:lk E t=some (.own n)) (hm:zEX G m=true) (hE:zE3 m E=some E) (hS:zEc m S=some S) (hmS:S.any (fun x=>Nat.beq x.1 m)=false) (hS':(S.map fun x=>(bif Nat.beq x.1 n then m else x.1,x.2))=S')
  {a:Act} {w:World}:Pre G E S a w->Pre G ((t,.own m)::E) S' a w:=by
 rintro ⟨σ,φ,hp⟩
 have hne:=zOU hmS
 have s2:∀x,x≠m->upd σ m (σ n) x = σ x:=fun x hx=>zFX _ _ hx
 have hwho:∀x k,(x,k)∈S'->∃x0,(x0,k)∈S/\upd σ m (σ n) x = σ x0/\upd φ m (φ n) x = φ x0/\(x0=n->x=m)/\(x0≠n->x=x0):=fun x k h=>by
  subst hS'
  obtain ⟨⟨x0,k0⟩,h1,h2⟩:=List.mem_map.1 h
  simp only [Prod.mk.injEq] at h2
  obtain ⟨h2,rfl⟩:=h2
  by_cases e:x0=n
  ·subst e
   simp only [Nat.beq_refl,cond_true] at h2
   subst h2
   exact ⟨x0,h1,zBw ..,zBw ..,fun _=>rfl,fun h=>absurd rfl h⟩
  ·simp only [zA5 e,cond_false] at h2
   subst h2
   exact ⟨x0,h1,zFX _ _ (hne _ _ h1),zFX _ _ (hne _ _ h1),fun h=>absurd h e,fun _=>rfl⟩
 refine ⟨upd σ m (σ n),upd φ m (φ n),hp.redo (w':=w) rfl rfl rfl (Nat.le_refl _) ?_ (fun b ⟨x,k,h1,h2⟩=>?_) (fun _ _ _=>rfl) (fun x y k l hx hy hxy b hb=>?_) (fun x k hx D' hD=>?_) (fun t' p ht'=>?_) (fun x hx=>s2 x (zRR hm x hx))⟩
 ·subst hS'
  rw [List.map_map]
  have hnd:=hp.inv.nodup
  refine List.nodup_iff_pairwise_ne.2 (List.pairwise_map.2 ?_)
  refine (List.pairwise_map.1 (List.nodup_iff_pairwise_ne.1 hnd)).imp_of_mem fun {x y} hx hy hxy=>?_
  simp only [Function.comp]
  have hx':=hne x.1 x.2 hx
  have hy':=hne y.1 y.2 hy
  by_cases e1:x.1=n<;>by_cases e2:y.1=n
  ·exact absurd (e1.trans e2.symm) hxy
  ·rw [e1];simp only [Nat.beq_refl,cond_true,zA5 e2,cond_false];exact Ne.symm hy'
  ·rw [e2];simp only [Nat.beq_refl,cond_true,zA5 e1,cond_false];exact hx'
  ·simp only [zA5 e1,zA5 e2,cond_false];exact hxy
 ·obtain ⟨x0,h3,_,h4,_⟩:=hwho x k h1
  rw [h4] at h2
  exact .inl ⟨x0,k,h3,h2⟩
 ·obtain ⟨x0,h3,_,h4,h5,h5'⟩:=hwho x k hx
  obtain ⟨y0,h6,_,h7,h8,h8'⟩:=hwho y l hy
  rw [h4] at hb
  rw [h7]
  refine hp.inv.disj x0 y0 k l h3 h6 (fun e=>hxy ?_) b hb
  subst e
  by_cases e1:x0=n
  ·rw [h5 e1,h8 e1]
  ·rw [h5' e1,h8' e1]
 ·obtain ⟨x0,h3,h4,h5,_⟩:=hwho x k hx
  rw [h4,h5]
  exact BlkOk.next hD (fun _ _=>rfl) (hp.inv.ok x0 k h3) fun ty cells e i c hc y hy=>s2 y (zK8 hS x0 cells (e▸h3) i c hc y hy)
 ·simp only [lk] at ht'
  by_cases e:t=t'
  ·subst e
   simp at ht';subst ht'
   obtain ⟨u,hu,hr⟩:=hp.env t _ ht
   refine ⟨u,hu,fun D' hD=>?_⟩
   cases hr with
   | d hd=>cases hd
   | own h1 =>
    have:R (upd σ m (σ n)) w D' (.own m) (upd σ m (σ n) m):=.own (by rw [zBw];exact h1)
    rw [zBw] at this
    exact this
  ·simp only [zA5 e,cond_false] at ht'
   obtain ⟨u,hu,hr⟩:=hp.env t' p ht'
   exact ⟨u,hu,fun D' hD=>(hr.mono hD).agree fun y hy=>s2 y (zK7 hE t' p ht' y hy)⟩
theorem zTj {mm:Option ρ} {ops:List Oper} (n m t:Nat) {S':Store} (ht:lk E t=some (.own n)) (hm:zEX G m=true) (hE:zE3 m E=some E) (hS:zEc m S=some S) (hmS:S.any (fun x=>Nat.beq x.1 m)=false) (hS':(S.map fun x=>(bif Nat.beq x.1 n then m else x.1,x.2))=S')
  (k:PO G mm all ops K ((t,.own m)::E) S'):PO G mm all ops K E S:=fun r hr a w hp=>k r hr a w (zR1 n m t ht hm hE hS hmS hS' hp)
theorem zQC (m n:Nat) {E1 E':Env} {S1 S':Store} (hn:zEX G n=true) (hnS:S.any (fun x=>Nat.beq x.1 n)=false) (hE:zE3 n E=some E1) (hS:zEc n S=some S1) (hE':(E1.map fun x=>(x.1,ren [(m,n)] x.2))=E') (hS':(S1.map fun x=>(rho [(m,n)] x.1,renB [(m,n)] x.2))=S')
  {a:Act} {w:World}:Pre G E S a w->Pre G E' S' a w:=by
 rintro ⟨σ,φ,hp⟩
 have hne:=zOU hnS
 have hr0:∀x,rho [(m,n)] x=if x=m then n else x:=fun x=>by
  unfold rho
  simp only [lku]
  by_cases e:m=x
  ·subst e;simp
  ·simp [zA5 e,Ne.symm e]
 have s2:∀x,x≠n->upd σ n (σ m) (rho [(m,n)] x) = σ x:=fun x hx=>by
  rw [hr0]
  by_cases e:x=m
  ·subst e;rw [if_pos rfl,zBw]
  ·rw [if_neg e,zFX _ _ hx]
 have p2:∀x,x≠n->upd φ n (φ m) (rho [(m,n)] x) = φ x:=fun x hx=>by
  rw [hr0]
  by_cases e:x=m
  ·subst e;rw [if_pos rfl,zBw]
  ·rw [if_neg e,zFX _ _ hx]
 have inj:∀x y,x≠n->y≠n->rho [(m,n)] x=rho [(m,n)] y->x=y:=fun x y hx hy h=>by
  rw [hr0,hr0] at h
  by_cases e1:x=m<;>by_cases e2:y=m
  ·rw [e1,e2]
  ·rw [if_pos e1,if_neg e2] at h;exact absurd h.symm hy
  ·rw [if_neg e1,if_pos e2] at h;exact absurd h hx
  ·rw [if_neg e1,if_neg e2] at h;exact h
 have hw:=zRY hS
 have hwho:∀x' k',(x',k')∈S'->∃x k1 k0,(x,k1)∈S1/\(x,k0)∈S/\x≠n/\Went [n] k0 k1/\x'=rho [(m,n)] x/\k'=renB [(m,n)] k1:=fun x' k' h=>by
  subst hS'
  obtain ⟨⟨x,k1⟩,h1,h2⟩:=List.mem_map.1 h
  cases h2
  obtain ⟨h3,k0,h4,h5⟩:=hw x k1 h1
  exact ⟨x,k1,k0,h1,h4,h3,h5,rfl,rfl⟩
 refine ⟨upd σ n (σ m),upd φ n (φ m),hp.redo (w':=w) rfl rfl rfl (Nat.le_refl _) ?_ (fun b ⟨x',k',h1,h2⟩=>?_) (fun _ _ _=>rfl) (fun x' y' k' l' hx hy hxy b hb=>?_) (fun x' k' hx D' hD=>?_) (fun t p ht=>?_) (fun x hx=>zFX _ _ (zRR hn x hx))⟩
 ·subst hS'
  rw [List.map_map]
  have hnd:(S1.map (·.1)).Nodup:=(zIF hS).nodup hp.inv.nodup
  refine List.nodup_iff_pairwise_ne.2 (List.pairwise_map.2 ?_)
  refine (List.pairwise_map.1 (List.nodup_iff_pairwise_ne.1 hnd)).imp_of_mem fun {x y} hx hy hxy=>?_
  simp only [Function.comp]
  exact fun h=>hxy (inj _ _ (hw x.1 x.2 hx).1 (hw y.1 y.2 hy).1 h)
 ·obtain ⟨x,k1,k0,_,h4,h3,_,rfl,_⟩:=hwho x' k' h1
  rw [p2 x h3] at h2
  exact .inl ⟨x,k0,h4,h2⟩
 ·obtain ⟨x,k1,k0,_,h4,h3,_,rfl,_⟩:=hwho x' k' hx
  obtain ⟨y,l1,l0,_,h7,h6,_,rfl,_⟩:=hwho y' l' hy
  rw [p2 x h3] at hb
  rw [p2 y h6]
  exact hp.inv.disj x y k0 l0 h4 h7 (fun e=>hxy (by rw [e])) b hb
 ·obtain ⟨x,k1,k0,h1,h4,h3,h5,rfl,rfl⟩:=hwho x' k' hx
  rw [s2 x h3,p2 x h3]
  have hb:BlkOk σ w D' (σ x) (φ x) k1:=BlkOk.went hD (fun _ _=>rfl) (hp.inv.ok x k0 h4) h5 fun _ _=>rfl
  exact hb.unren fun cells e i c hc y hy=>s2 y (zK8 hS x cells (e▸h1) i c hc y hy)
 ·subst hE'
  rw [zRc] at ht
  obtain ⟨p0,h1,rfl⟩:=Option.map_eq_some_iff.1 ht
  obtain ⟨u,hu,hr⟩:=zTW hE hp.env (σ2 := σ) (w':=w) (fun _ _=>rfl) t p0 h1
  exact ⟨u,hu,fun D' hD=>(hr D' hD).unren fun y hy=>s2 y (zK7 hE t p0 h1 y hy)⟩
theorem zRu (m0 n:Nat) {E1 E':Env} {S1 S':Store} (hn:zEX G n=true) (hnS:S.any (fun x=>Nat.beq x.1 n)=false) (hE:zE3 n E=some E1) (hS:zEc n S=some S1) (hE':(E1.map fun x=>(x.1,ren [(m0,n)] x.2))=E') (hS':(S1.map fun x=>(rho [(m0,n)] x.1,renB [(m0,n)] x.2))=S')
  (k:PN G m K E' S'):PN G m K E S:=fun r hr a w hp=>k r hr a w (zQC m0 n hn hnS hE hS hE' hS' hp)
end
end Go.Pw
