/- The rules for slices that a call builds itself, and for texts. No program is named here. -/
import Derived.Test.YtoboimmgglnjfaaGreatDoorEff2
namespace Go.Pw
open Go
section
variable {P:Program} {ρ : Type} {G:Ctx ρ} {m:Option ρ} {K:List (Kont ρ)} {E:Env} {S:Store} {σ : Nat->Value} {w:World} {D X:Nat->Prop} {φ : Nat->Nat->Prop}
def zMZ (fs:List (Nat×Bool×Nat)) (E:Env):List (Nat×Operand)->List PV->Option (List PV)
 | [],cs=>some cs
 | (i,x)::l,cs=>match nthE fs i,ev E x with
  | some (off,_,n),some p=>(match zJI p with
   | some qs=>bif Nat.beq qs.length n then (match ovr cs off qs with
    | some cs'=>zMZ fs E l cs'
    | none=>none) else none
   | none=>none)
  | _,_=>none
theorem zRI {a:Act} (hE:InvE σ w D E a.tmps) {fs:List (Nat×Bool×Nat)} {place:Nat->Option (Nat×Nat)} (hp:∀i off g n,nthE fs i=some (off,g,n)->place i=some (off,n)) :
  ∀{l:List (Nat×Operand)} {cs cs':List PV} {us:List Value},zMZ fs E l cs=some cs'->us.length=cs.length->(∀(i:Nat) (c:PV) (x:Value),cs[i]? = some c->us[i]? = some x->R σ w D c x) ->
   ∃us':List Value,Instr.fill place ⟨us⟩ (l.map fun (i,x)=>(i,a.eval x))=some ⟨us'⟩/\us'.length=cs'.length/\∀(i:Nat) (c:PV) (x:Value),cs'[i]? = some c->us'[i]? = some x->R σ w D c x
 | [],cs,cs',us,h,hl,hr=>by simp [zMZ] at h;subst h;exact ⟨us,rfl,hl,hr⟩
 | (i,x)::l,cs,cs',us,h,hl,hr=>by
  simp only [zMZ] at h
  split at h<;>try simp at h
  rename_i off g n p hn hp'
  split at h<;>try simp at h
  rename_i qs hqs
  cases hb:Nat.beq qs.length n<;>simp only [hb,cond_true,cond_false] at h
  ·simp at h
  have hbn:=Nat.eq_of_beq_eq_true hb
  split at h<;>try simp at h
  rename_i cs1 hov
  obtain ⟨vs,g1,g2,g3⟩:=zGl hqs (zBI hE hp')
  obtain ⟨o1,o2,o3⟩:=zLF hov
  have lay:∀(vs:List Value) (j:Nat) (us:Array Value),off+j+vs.length<=us.size->∃ws:List Value,(vs.zipIdx j).foldl (fun cs (c,k)=>cs.setIfInBounds (off+k) c) us=⟨ws⟩/\ws.length=us.size /\
    ∀t:Nat,ws[t]? = if off+j<=t/\t<off+j+vs.length then vs[t - (off+j)]? else us[t]? := by
   intro vs
   induction vs with
   | nil=>intro j us _;exact ⟨us.toList,rfl,by simp,fun t=>by simp;intro h1 h2;omega⟩
   | cons v vs ih =>
    intro j us hsz
    simp only [List.length_cons] at hsz
    obtain ⟨ws,h1,h2,h3⟩:=ih (j+1) (us.setIfInBounds (off+j) v) (by simp;omega)
    refine ⟨ws,by simpa [List.zipIdx_cons] using h1,by simpa using h2,fun t=>?_⟩
    rw [h3 t]
    by_cases ht:off+j=t
    ·subst ht
     rw [if_neg (by omega),if_pos (by simp),Nat.sub_self]
     simp [Array.getElem?_setIfInBounds]
     omega
    ·by_cases hin:off+(j+1)<=t/\t<off+(j+1)+vs.length
     ·rw [if_pos hin,if_pos (by simp;omega),show t - (off+j)=(t - (off+(j+1)))+1 by omega,List.getElem?_cons_succ]
     ·rw [if_neg hin,if_neg (by simp;omega)]
      simp [Array.getElem?_setIfInBounds_ne ht]
  obtain ⟨ws,h1,h2,h3⟩:=lay vs 0 ⟨us⟩ (by simp;omega)
  have hr1:∀(i:Nat) (c:PV) (x:Value),cs1[i]? = some c->ws[i]? = some x->R σ w D c x:=by
   intro t c x hc hx
   rw [o3 t] at hc
   rw [h3 t] at hx
   simp only [Nat.add_zero,g2] at hx
   split at hc
   ·rename_i hin;rw [if_pos hin] at hx;exact g3 _ _ _ hc hx
   ·rename_i hin;rw [if_neg hin] at hx;exact hr _ _ _ hc (by simpa using hx)
  obtain ⟨us',e1,e2,e3⟩:=zRI hE hp (us:=ws) h (by rw [h2,o1];simpa using hl) hr1
  refine ⟨us',?_,e2,e3⟩
  simp only [List.map_cons,Instr.fill,hp i off g n hn,g1]
  rw [if_neg (by simp;omega)]
  have hz:((⟨vs⟩:Array Value).zipIdx).foldl (fun cs (x:Value×Nat)=>cs.setIfInBounds (off+x.2) x.1) (⟨us⟩:Array Value)=⟨ws⟩:=by
   rw [<- Array.foldl_toList,Array.toList_zipIdx]
   exact h1
  rw [hz]
  exact e1
theorem zM9:∀{l:List Field} {fs:List (Nat×Bool×Nat)},mapO (zLn P) l=some fs->l.mapM (fun f=>(P.info? f.type).map fun i=>(f.offset,i.size))=some (fs.map fun x=>(x.1,x.2.2))
 | [],fs,h=>by simp [mapO] at h;subst h;rfl
 | f::l,fs,h=>by
  simp only [mapO] at h
  split at h<;>try simp at h
  rename_i y hy
  split at h<;>simp at h
  rename_i q hq
  subst h
  unfold zLn at hy
  split at hy<;>simp at hy
  rename_i i d hi hd
  subst hy
  simp [List.mapM_cons,hi,zM9 hq]
theorem zA4 {T:Tab G.P} {all:Array Oper} {o:Oper} {rest:List Oper} {t:TypeId} {parts:Array (Nat×Operand)} {fs:List (Nat×Bool×Nat)} {zs cs:List PV} {d:Nat} (ho:o.op=.build t parts) (hg:gE all E o=some true)
  (hf:lku T.flds t=some fs) (hz:zeroE T t=some zs) (hb:zMZ fs E parts.toList zs=some cs) (hd:o.dst=some d) (hlt:Nat.blt d G.fn.ntmps=true) (k:PO G m all rest K ((d,.agg cs)::E) S):PO G m all (o::rest) K E S:=by
 refine zFV hg fun r hr a w ⟨σ,φ,hp⟩=>?_
 have hfl:=T.hflds _ (zA6 hf)
 unfold zIc at hfl
 split at hfl<;>try simp at hfl
 rename_i l hl
 obtain ⟨z,z1,z2,z3⟩:=zPm (σ := σ) (w:=w) (D:=Dof G.X φ w S) hz
 obtain ⟨us,u1,u2,u3⟩:=zRI hp.env (place:=fun i=>(fs.map fun x=>(x.1,x.2.2))[i]?) (fun i off g n h=>by rw [zG0] at h;simp [h]) (us:=z.cells.toList) hb z2 z3
 have hrun:(execOp a.eval o).run G.P w=.ok (.value (.agg ⟨us⟩)) w:=by
  have hpl:=run_places (P:=G.P) w _ _ (zM9 hfl)
  have e:((parts.map fun (x:Nat×Operand)=>(x.1,a.eval x.2)).toList)=parts.toList.map fun x=>(x.1,a.eval x.2):=by simp
  have hfill:Instr.fill (fun i=>(fs.map fun x=>(x.1,x.2.2))[i]?) z.cells (parts.toList.map fun x=>(x.1,a.eval x.2))=some ⟨us⟩:=u1
  generalize (fs.map fun x=>(x.1,x.2.2))=places at hpl hfill
  simp [execOp,ho,Instr.build,z1,run_underlying hl,Array.mapM_eq_mapM_toList,hpl,hfill]
 unfold Oper.wp
 rw [hrun,Oper.upon_value,hd]
 exact k r hr _ _ ⟨σ,φ,hp.put (zCB hlt) (.agg u2.symm u3)⟩
def datP:PV->Bool
 | .v _ | .sl _ _ _ | .el _ _=>true
 | _=>false
theorem R.toRD {p:PV} {u:Value} (r:R σ w D p u) (h:datP p=true):RD w D p u:=by
 cases r with
 | d hd=>exact hd
 | _=>simp [datP] at h
theorem zFN {rows:List (List PV)} {size:Nat} (h:∀r∈rows,r.length=size):rows.flatten.length=rows.length*size:=by
 induction rows with
 | nil=>simp
 | cons r rows ih=>simp [h r (List.mem_cons_self ..),ih fun q hq=>h q (List.mem_cons_of_mem _ hq),Nat.succ_mul];omega
def ownB:Value->Option Nat
 | .slice _ _ 0=>none
 | v=>v.ownBlock
theorem zIk {v:Value} {b:Nat} (h:ownB v=some b):v.ownBlock=some b:=by
 unfold ownB at h
 split at h
 ·cases h
 ·exact h
theorem zN9 {a:Option Addr} {n cap:Nat} (h:0<cap):ownB (.slice a n cap)=(Value.slice a n cap).ownBlock:=by
 cases cap with
 | zero=>omega
 | succ c=>rfl
def OwnR (w:World) (e size:Nat) (v:Value) (k:Nat) (xs:List Value):Prop :=
 (w.ownsRow 0 e size v k xs/\ownB v=v.ownBlock)\/(k=0/\xs=[]/\∃a,v=.slice (some a) 0 0)
theorem OwnR.len {e size:Nat} {v:Value} {k:Nat} {xs:List Value} (h:OwnR w e size v k xs):xs.length=k*size:=by
 rcases h with h | ⟨rfl,rfl,_⟩
 ·exact h.1.1
 ·simp
theorem zLt {e:Nat} (h:Nat.blt e fixE=true):e % fixE=e:=Nat.mod_eq_of_lt (by simpa [Nat.blt_eq] using h)
theorem zQW {v:Value} {fp:Nat->Prop} {e size:Nat} {rows:List (List PV)} (he:Nat.blt e fixE=true) (h:BlkOk σ w D v fp (.arr e size rows)):∃xs:List Value,OwnR w e size v rows.length xs /\
  (∀(i:Nat) (c:PV) (u:Value),rows.flatten[i]? = some c->xs[i]? = some u->RD w D c u)/\∀b,fp b↔ownB v=some b:=by
 obtain ⟨h0,h⟩:=h
 rcases h with ⟨rfl,⟨ao,rfl⟩,h3⟩ | ⟨b,us,cap,rfl,h2,h3,⟨h4,h4'⟩,h5,⟨fr,h6,_,h6'⟩,h7⟩
 ·refine ⟨[],?_,fun i c u hc=>by simp at hc,fun b=>by simp [ownB,h3 b]⟩
  cases ao with
  | none=>exact .inl ⟨⟨by simp,.inl ⟨rfl,rfl⟩⟩,rfl⟩
  | some a=>exact .inr ⟨rfl,rfl,a,rfl⟩
 ·rw [h6' he,zLt he] at h6
  refine ⟨us.take (rows.length*size),.inl ⟨⟨?_,.inr ⟨b,cap,⟨us⟩,rfl,Nat.zero_le _,h6,h4,h5,h3,rfl⟩⟩,zN9 h4'⟩,fun i c u hc hu=>?_,fun x=>by rw [zN9 h4'];simp [Value.ownBlock,h2 x,eq_comm]⟩
  ·rw [List.length_take,h3];exact Nat.min_eq_left (Nat.mul_le_mul_right _ h4)
  ·rw [List.getElem?_take] at hu
   split at hu
   ·exact h7 i c u hc hu
   ·simp at hu
theorem zPC {v:Value} {e size:Nat} {rows:List (List PV)} {xs:List Value} (he:Nat.blt e fixE=true) (h0:∀row:List PV,row∈rows->row.length=size) (h:w.ownsRow 0 e size v rows.length xs)
  (hr:∀(i:Nat) (c:PV) (u:Value),rows.flatten[i]? = some c->xs[i]? = some u->RD w D c u):BlkOk σ w D v (fun b=>ownB v=some b) (.arr e size rows):=by
 refine ⟨h0,?_⟩
 obtain ⟨hl,h⟩:=h
 rcases h with ⟨rfl,hn⟩ | ⟨g,cap,cur,rfl,_,h2,h3,h4,h5,h6⟩
 ·exact Or.inl ⟨List.eq_nil_of_length_eq_zero hn,⟨_,rfl⟩,fun x=>by simp [ownB]⟩
 ·by_cases hc:cap=0
  ·subst hc
   have hr0:rows.length=0:=by omega
   exact .inl ⟨List.eq_nil_of_length_eq_zero hr0,⟨some ⟨g,0,none⟩,by rw [hr0]⟩,fun x=>by simp [ownB]⟩
  ·refine .inr ⟨g,cur.toList,cap,rfl,fun x=>by rw [zN9 (by omega)];simp [Value.ownBlock,eq_comm],by simpa using h5,⟨h3,by omega⟩,h4,⟨(0,0),by rw [zLt he];exact h2,by simp,fun _=>rfl⟩,fun i c u hc hu=>hr i c u hc ?_⟩
   have hlt:i<rows.length*size:=by rw [<- zFN h0];exact (List.getElem?_eq_some_iff.1 hc).1
   rw [<- h6,List.getElem?_take,if_pos hlt];exact hu
theorem zRp {v:Value} {e size:Nat} {rows:List (List PV)} {xs:List Value} (he:Nat.blt e fixE=true) (h0:∀row:List PV,row∈rows->row.length=size) (h:OwnR w e size v rows.length xs\/w.ownsRow 0 e size v rows.length xs)
  (hr:∀(i:Nat) (c:PV) (u:Value),rows.flatten[i]? = some c->xs[i]? = some u->RD w D c u):BlkOk σ w D v (fun b=>ownB v=some b) (.arr e size rows):=by
 rcases h with (⟨h,_⟩ | ⟨h1,h2,a,rfl⟩) | h
 ·exact zPC he h0 h hr
 ·exact ⟨h0,.inl ⟨List.eq_nil_of_length_eq_zero h1,⟨_,rfl⟩,fun x=>by simp [ownB]⟩⟩
 ·exact zPC he h0 h hr
theorem zQA {v:Value} {e size k:Nat} {xs:List Value} (h:OwnR w e size v k xs\/w.ownsRow 0 e size v k xs):zLE v=true:=by
 rcases h with (⟨h,_⟩ | ⟨_,_,_,rfl⟩) | h
 ·rcases h.2 with ⟨rfl,_⟩ | ⟨_,_,_,rfl,_⟩<;>rfl
 ·rfl
 ·rcases h.2 with ⟨rfl,_⟩ | ⟨_,_,_,rfl,_⟩<;>rfl
def srcE (S:Store):PV->Option (Nat×List (List PV))
 | .sl size _ rows=>some (size,rows)
 | .own n=>match lkS S n with
  | some (.arr _ size rows)=>some (size,rows)
  | _=>none
 | _=>none
theorem zU2 (hi:Inv X σ φ w S) {q:PV} {u:Value} {size:Nat} {rows:List (List PV)} (h:srcE S q=some (size,rows)) (hr:R σ w (Dof X φ w S) q u) :
  (∀r∈rows,r.length=size)/\((rows=[]/\∃c,u=.slice none 0 c)\/∃(ad:Addr) (c:Nat) (news:List Value),u=.slice (some ad) rows.length c/\news.length=rows.length*size/\(∀j x,news[j]? = some x->w.cell? (ad.add j)=some x) /\
   ∀(i:Nat) (c:PV) (x:Value),rows.flatten[i]? = some c->news[i]? = some x->RD w (Dof X φ w S) c x):=by
 cases q<;>simp only [srcE] at h<;>try (simp at h;done)
 case sl s f rows' =>
  simp at h
  obtain ⟨rfl,rfl⟩:=h
  cases hr with
  | d hd=>cases hd with
   | nil h1 h2 =>
    rename_i a cap
    cases a with
    | none=>exact ⟨by simp,.inl ⟨rfl,_,rfl⟩⟩
    | some ad=>exact ⟨by simp,.inr ⟨ad,_,[],rfl,by simp,by simp,fun i c x hc=>by simp at hc⟩⟩
   | sl g h1 h2 h3 h4 h5 h6 h7 =>
    rename_i ad cap
    have hlen:=zFN h5
    have cell:∀j,j<rows'.length*s->∃c,rows'.flatten[j]? = some c/\w.cell? (ad.add j)=some (g j)/\RD w (Dof X φ w S) c (g j):=by
     intro j hj
     have hs:0<s:=by rcases Nat.eq_zero_or_pos s with h | h;subst h;simp at hj;exact h
     have hi:j / s<rows'.length:=Nat.div_lt_of_lt_mul (by rw [Nat.mul_comm];exact hj)
     have hrow:=List.getElem?_eq_getElem hi
     have hro:=h5 _ (List.getElem_mem hi)
     have hm:j % s<s:=Nat.mod_lt _ hs
     have hk:=List.getElem?_eq_getElem (show j % s<(rows'[j / s]).length by omega)
     have e:j / s*s+j % s=j:=by rw [Nat.mul_comm];exact Nat.div_add_mod j s
     have hf:=zFH h5 hrow hm
     rw [e,hk] at hf
     have g6:=h6 _ _ _ _ hrow hk
     have g7:=h7 _ _ _ _ hrow hk
     rw [e] at g6 g7
     exact ⟨_,hf,g6,g7⟩
    refine ⟨h5,.inr ⟨ad,cap,(List.range (rows'.length*s)).map g,rfl,by simp,fun j x hx=>?_,fun i c x hc hx=>?_⟩⟩
    ·have hj:j<rows'.length*s:=by simpa using (List.getElem?_eq_some_iff.1 hx).1
     obtain ⟨c,_,h8,_⟩:=cell j hj
     rw [List.getElem?_map,List.getElem?_range hj] at hx
     simp at hx;subst hx;exact h8
    ·have hj:i<rows'.length*s:=by simpa using (List.getElem?_eq_some_iff.1 hx).1
     obtain ⟨c',h8,_,h9⟩:=cell i hj
     rw [List.getElem?_map,List.getElem?_range hj] at hx
     simp at hx;subst hx
     rw [h8] at hc;cases hc;exact h9
 case own n =>
  split at h<;>simp at h
  obtain ⟨h1,h2⟩:=h
  rename_i e size' rows' hl
  subst h1 h2
  have hb:=hi.ok n _ (zBN hl)
  have hu:u = σ n:=by
   cases hr with
   | own=>rfl
   | d hd=>cases hd
  refine ⟨hb.1,?_⟩
  obtain ⟨g0,gb⟩:=hb
  rcases gb with ⟨h3,⟨ao,h4⟩,_⟩ | ⟨b,us,cap,h3,_,h4,h5,_,⟨fr,h6,_⟩,h7⟩
  ·subst h3
   cases ao with
   | none=>exact .inl ⟨rfl,0,by rw [hu,h4]⟩
   | some a=>exact .inr ⟨a,0,[],by rw [hu,h4];rfl,by simp,by simp,fun i c x hc=>by simp at hc⟩
  ·refine .inr ⟨⟨b,0,none⟩,cap,us.take (rows'.length*size'),by rw [hu,h3],?_,fun j x hx=>?_,fun i c x hc hx=>?_⟩
   ·rw [List.length_take,h4];exact Nat.min_eq_left (Nat.mul_le_mul_right _ h5.1)
   ·rw [List.getElem?_take] at hx
    split at hx
    ·rw [zD1,zCY h6,Nat.zero_add];exact hx
    ·simp at hx
   ·rw [List.getElem?_take] at hx
    split at hx
    ·exact h7 i c x hc hx
    ·simp at hx
def zBr (by_ k:Nat):Option Unit:=if k*by_<=140737488355328 then some () else none
theorem zME {b k:Nat} {x:Unit} (h:zBr b k=some x):k*b<=140737488355328:=by
 unfold zBr at h;split at h
 ·assumption
 ·simp at h
theorem flatten_append (a b:List (List PV)):(a++b).flatten=a.flatten++b.flatten:=by simp
theorem zJe (t ty e:TypeId) (i:TypeInfo) (size c:Nat) (ht:P.underlying t=some (.slice e)) (hi:P.info? e=some i) {v:Value} {n:Nat} {xs:List Value} (hown:OwnR w e size v n xs) :
  (Builtin.append_ #[t,t] ty #[v,.slice none 0 c]).run P w=.ok v w:=by
 rcases hown with ⟨hown,_⟩ | ⟨rfl,rfl,a,rfl⟩
 rotate_left
 ·simp [Builtin.append_,run_underlying ht,sizeOf,typeInfo,hi,Builtin.lenOf,Builtin.firstCells,storeCells]
 rcases hown.2 with ⟨rfl,rfl⟩ | ⟨g,cap,cur,rfl,_,_,hnc,_⟩
 ·simp [Builtin.append_,run_underlying ht,sizeOf,typeInfo,hi,Builtin.lenOf,Builtin.firstCells]
 ·simp [Builtin.append_,run_underlying ht,sizeOf,typeInfo,hi,Builtin.lenOf,Builtin.firstCells,hnc,storeCells]
theorem zMY {t ty e:TypeId} {i:TypeInfo} {z:Value} {size by_:Nat} (ht:P.underlying t=some (.slice e)) (hi:P.info? e=some i) (hz:i.zero=some z) (hsize:i.size=size) (hby:i.bytes=by_)
  {v:Value} {n:Nat} {xs:List Value} (hown:w.ownsRow 0 e size v n xs) {a:Addr} {m c:Nat} {news:List Value} (hl:news.length=m*size) (hnews:∀j u,news[j]? = some u->w.cell? (a.add j)=some u) (h1:∀u∈news,u.oneCell'=true)
  (h63:n+m<=maxLen) (hbytes:(n+m)*by_<=140737488355328) {v':Value} {w':World} (hr:(Builtin.append_ #[t,t] ty #[v,.slice (some a) m c]).run P w=.ok v' w') {b:Nat} (hb:v'.ownBlock=some b):v.ownBlock=some b\/w.heap.size<=b:=by
 subst hsize
 subst hby
 have h63':n+m<=9223372036854775807:=by simp only [maxLen] at h63;omega
 rcases hown.2 with ⟨rfl,rfl⟩ | ⟨g,cap,cur,rfl,_,hg,hnc,hcm,hcs,htake⟩
 ·by_cases hm:m=0
  ·subst hm
   have hn:news=[]:=List.eq_nil_of_length_eq_zero (by simpa using hl)
   subst hn
   have:(Builtin.append_ #[t,t] ty #[.slice none 0 0,.slice (some a) 0 c]).run P w=.ok (.slice none 0 0) w:=by
    simp [Builtin.append_,run_underlying ht,sizeOf,typeInfo,hi,Builtin.lenOf,Builtin.firstCells,loadCells,loadCellsFrom]
   rw [this] at hr;cases hr;simp [Value.ownBlock] at hb
  ·have:=run_append_nil (P:=P) w t ty e i z ht hi hz a m c news hl hnews (by omega) (by omega) (by have hb:=hbytes;simp only [Nat.zero_add] at hb;omega)
   rw [this] at hr;cases hr
   simp [Value.ownBlock] at hb;exact .inr (by omega)
 ·by_cases hroom:n+m<=cap
  ·have hfit:n*i.size+news.length<=cur.size:=by rw [hl,hcs,<- Nat.add_mul];exact Nat.mul_le_mul_right _ hroom
   have:=run_append_room (P:=P) w t ty e i ht hi g n cap cur hg a m c news hl hnews h1 hroom hfit
   rw [this] at hr;cases hr
   exact .inl hb
  ·have holds:∀j u,xs[j]? = some u->w.cell? ((⟨g,0,none⟩:Addr).add j)=some u:=hown.cells (g:=g) rfl
   have:=run_append_grow (P:=P) w t ty e i z ht hi hz ⟨g,0,none⟩ n cap xs hown.1 holds a m c news hl hnews (by omega) (by omega) (growslice_fits (by omega) hbytes)
   rw [this] at hr;cases hr
   simp [Value.ownBlock] at hb;exact .inr (by omega)
theorem zAv {T:Tab G.P} {α : Type} {all:Array Oper} {o:Oper} {rest:List Oper} {f:Unit->Option ρ} (enc : α -> List PV) (xs ys:List α) {args:Array Operand} {tys:Array TypeId} {t n e size by_:Nat} {x y:Operand} {q:PV} {z:Value} {d:Nat}
  {E':Env} {S':Store} (he:Nat.blt e fixE=true) (ho:o.op=.call ⟨.builtin .append,args,tys⟩) (h1:args.toList=[x,y]) (h2:tys.toList=[t,t]) (hg:gE all E o=some true) (hx:ev E x=some (.own n)) (hb:lkS S n=some (.arr e size (xs.map enc)))
  (hy:ev E y=some q) (hs:srcE S q=some (size,ys.map enc)) (ht:lku T.els t=some (e,size,by_)) (hz:lku T.zeros e=some z) (hzs:z.cells.size=size) (hs0:Nat.blt 0 size=true) (hb0:Nat.blt 0 by_=true)
  (hone:∀r∈ys.map enc,r.all zGS=true) (hd:o.dst=some d) (hlt:Nat.blt d G.fn.ntmps=true) (hn:zEX G n=true) (hE:zE3 n E=some E') (hS:zEc n S=some S')
  (k:PO G (f ()) all rest K ((d,.own n)::E') ((n,.arr e size ((xs++ys).map enc))::S')):PO G (bnd (zBr by_ (xs.length+ys.length)) f) all (o::rest) K E S:=by
 refine zGD fun u hu=>zFV hg fun r hr a w ⟨σ,φ,hp⟩=>?_
 have hroom:=zME hu
 have hmem:=zBN hb
 have hblk:=hp.inv.ok n _ hmem
 obtain ⟨xs',own,hxs,hfp⟩:=zQW he hblk
 have hxv:a.eval x = σ n:=by
  have:=zBI hp.env hx
  generalize a.eval x=v at this
  cases this with
  | own=>rfl
  | d hd=>cases hd
 obtain ⟨hys,hsrc⟩:=zU2 hp.inv hs (zBI hp.env hy)
 obtain ⟨hel,inf,hinf,hsz,hby⟩:=zC2 (T.hels _ (zA6 ht))
 have hz':=T.hzeros _ (zA6 hz)
 simp only [hinf,Option.bind_some] at hz'
 have hby0:=zCB hb0
 have hs0':=zCB hs0
 rw [List.length_map] at own
 have hrun:∃v' w' news,(execOp a.eval o).run G.P w=.ok (.value v') w'/\(OwnR w' e size v' (xs.length+ys.length) (xs'++news)\/w'.ownsRow 0 e size v' (xs.length+ys.length) (xs'++news))/\w.grownBy w' (ownB (σ n)) /\
   (∀(i:Nat) (c:PV) (x:Value),(ys.map enc).flatten[i]? = some c->news[i]? = some x->RD w (Dof G.X φ w S) c x)/\∀b,ownB v'=some b->(ownB (σ n)=some b\/w.heap.size<=b)/\b<w'.heap.size:=by
  obtain ⟨args⟩:=args
  obtain ⟨tys⟩:=tys
  simp only at h1 h2
  subst h1 h2
  have hex:∀v' w',(Builtin.append_ #[t,t] o.type #[σ n,a.eval y]).run G.P w=.ok v' w'->(execOp a.eval o).run G.P w=.ok (.value v') w':=fun v' w' h=>by
   simp [execOp,ho,resolve,invoke,builtin,hxv,h]
  rcases hsrc with ⟨h3,c,h4⟩ | ⟨ad,c,news,h3,h4,h5,h6⟩
  ·have hy0:ys=[]:=by simpa using h3
   subst hy0
   exact ⟨σ n,w,[],hex _ _ (by rw [h4];exact zJe t _ e inf size c hel hinf own),.inl (by simpa using own),⟨rfl,rfl,rfl,Nat.le_refl _,fun _ _ _=>rfl⟩,fun i c x hc=>by simp at hc,fun b hb=>⟨.inl hb,(hp.inv.lt b ⟨n,_,hmem,(hfp b).2 hb⟩).1⟩⟩
  ·rw [List.length_map] at h3 h4
   have hlen:xs.length+ys.length<=140737488355328:=Nat.le_trans (Nat.le_mul_of_pos_right _ hby0) hroom
   have hn1:∀u∈news,u.oneCell'=true:=by
    intro u hu
    obtain ⟨i,hi,rfl⟩:=List.mem_iff_getElem.1 hu
    have hfl:=zFN hys
    rw [List.length_map] at hfl
    have hi':i<(ys.map enc).flatten.length:=by omega
    have hc:=List.getElem_mem hi'
    obtain ⟨r',hr',hcr⟩:=List.mem_flatten.1 hc
    exact zMe (σ := σ) (.d (h6 i _ _ (List.getElem?_eq_getElem hi') (List.getElem?_eq_getElem hi))) (List.all_eq_true.1 (hone r' hr') _ hcr)
   rcases own with ⟨own,hob⟩ | ⟨k0,x0,a0,hv⟩
   rotate_left
   ·subst x0
    by_cases hm:ys.length=0
    ·have hn0:news=[]:=List.eq_nil_of_length_eq_zero (by rw [h4,hm];simp)
     subst hn0
     refine ⟨σ n,w,[],hex _ _ ?_,.inl (.inr ⟨by omega,rfl,a0,hv⟩),⟨rfl,rfl,rfl,Nat.le_refl _,fun _ _ _=>rfl⟩,h6,fun b hb=>by rw [hv] at hb;simp [ownB] at hb⟩
     rw [h3,hm,hv]
     simp [Builtin.append_,run_underlying hel,sizeOf,typeInfo,hinf,Builtin.lenOf,Builtin.firstCells,loadCells,loadCellsFrom,storeCells]
    ·obtain ⟨v',w',g1,g2,g3⟩:=run_append_arg_grows (P:=G.P) w t o.type e inf z size by_ hel hinf hz' hsz hby hzs hs0' a0 0 0 [] (by simp) (fun j u h=>by simp at h) ad ys.length c news h4 h5 (by omega) (by simp only [maxLen];omega) (by rw [k0] at hroom;exact hroom)
     refine ⟨v',w',news,hex _ _ (by rw [h3,hv];exact g1),.inr ?_,?_,h6,fun b hb=>?_⟩
     ·rw [k0];exact ⟨g2.1,g2.2.imp id fun ⟨g,cap,cur,e1,e2,e3⟩=>⟨g,cap,cur,e1,Nat.zero_le _,e3⟩⟩
     ·rw [hv];exact g3
     ·have:=g2.lt b (zIk hb);exact ⟨.inr this.1,this.2⟩
   obtain ⟨v',w',g1,g2,g3,_⟩:=run_append_own (P:=G.P) w 0 t o.type e inf z size by_ hel hinf hz' hsz hby hzs hs0' (σ n) xs.length xs' own ad ys.length c news h4 h5 hn1 (by simp only [maxLen];omega) hroom (Nat.zero_le _)
   exact ⟨v',w',news,hex _ _ (by rw [h3];exact g1),.inr g2,by rw [hob];exact g3,h6,fun b hb=>⟨by rw [hob];exact zMY hel hinf hz' hsz hby own h4 h5 hn1 (by simp only [maxLen];omega) hroom g1 (zIk hb),(g2.lt b (zIk hb)).2⟩⟩
 obtain ⟨v',w',news,r1,r2,r3,r4,r5⟩:=hrun
 unfold Oper.wp
 rw [r1,Oper.upon_value,hd]
 have hkeep:∀b,b<w.heap.size->((∃k0,(n,k0)∈S)->¬φ n b)->w'.heap[b]? = w.heap[b]? := fun b hb hf=>r3.block b hb fun e=>hf ⟨_,hmem⟩ ((hfp b).2 e.symm)
 have hlay:=hp.lay (hdr:=v') (w':=w') (fp:=fun b=>ownB v'=some b) (k:=.arr e size ((xs++ys).map enc)) hn hE hS r3.size (fun b hb=>?_) hkeep r3.os r3.tape r3.output fun D' hD=>?_
 ·refine k r hr _ _ ⟨_,_,hlay.put (zCB hlt) ?_⟩
  have:R (upd σ n v') w' (Dof G.X (upd φ n fun b=>ownB v'=some b) w' ((n,.arr e size ((xs++ys).map enc))::S')) (.own n) (upd σ n v' n):=.own (by rw [zBw];exact zQA r2)
  rw [zBw] at this
  exact this
 ·have hlt':=(r5 b hb).2
  refine ⟨hlt',?_⟩
  rcases Nat.lt_or_ge b w.heap.size with h | h
  ·right
   exact ⟨⟨_,hmem⟩,(hfp b).2 ((r5 b hb).1.resolve_right (by omega))⟩
  ·exact .inl h
 ·refine zRp (xs:=xs'++news) he ?_ ?_ ?_
  ·intro row hrow
   rw [List.map_append] at hrow
   rcases List.mem_append.1 hrow with h | h
   ·exact hblk.1 row h
   ·exact hys row h
  ·simpa using r2
  ·intro i c u hc hu
   rw [List.map_append,flatten_append] at hc
   have hl1:xs'.length=(xs.map enc).flatten.length:=by rw [own.len,zFN hblk.1];simp
   rcases Nat.lt_or_ge i xs'.length with h | h
   ·rw [List.getElem?_append_left (by omega)] at hc
    rw [List.getElem?_append_left h] at hu
    exact (hxs i c u hc hu).mono hD
   ·rw [List.getElem?_append_right (by omega)] at hc
    rw [List.getElem?_append_right h] at hu
    rw [<- hl1] at hc
    exact (r4 _ c u hc hu).mono hD
end
end Go.Pw
