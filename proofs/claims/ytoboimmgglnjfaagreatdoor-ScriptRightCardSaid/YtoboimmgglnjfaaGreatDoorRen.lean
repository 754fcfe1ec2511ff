/- Contracts under other names of blocks. No program is named here. -/
import Derived.Test.YtoboimmgglnjfaaGreatDoorDraw2
namespace Go.Pw
open Go
def rho (rn:List (Nat×Nat)) (n:Nat):Nat:=match lku rn n with
 | some m=>m
 | none=>n
mutual
def ren (rn:List (Nat×Nat)):PV->PV
 | .loc n off=>.loc (rho rn n) off
 | .nloc n off=>.nloc (rho rn n) off
 | .ela n size i off=>.ela (rho rn n) size i off
 | .own n=>.own (rho rn n)
 | .ownb n=>.ownb (rho rn n)
 | .dat n=>.dat (rho rn n)
 | .bsl n l=>.bsl (rho rn n) l
 | .sel k alts=>.sel k (renL rn alts)
 | .fn f a b=>.fn f (renL rn a) (renL rn b)
 | .agg cs=>.agg (renL rn cs)
 | .tup cs=>.tup (renL rn cs)
 | .v x=>.v x
 | .sl size full rows=>.sl size full rows
 | .el row off=>.el row off
 | .err b=>.err b
 | .junk=>.junk
def renL (rn:List (Nat×Nat)):List PV->List PV
 | []=>[]
 | p::l=>ren rn p::renL rn l
end
def renB (rn:List (Nat×Nat)):Blk->Blk
 | .box ty cells=>.box ty (renL rn cells)
 | b=>b
def renS (rn:List (Nat×Nat)):Store->Store
 | []=>[]
 | (n,b)::S=>(rho rn n,renB rn b)::renS rn S
section
variable {P:Program} {σ σ':Nat->Value} {w:World} {D X:Nat->Prop} {φ : Nat->Nat->Prop} {S:Store} {rn:List (Nat×Nat)}
theorem zDI:∀{l:List PV} {i:Nat},(renL rn l)[i]? = (l[i]?).map (ren rn)
 | [],i=>by simp [renL]
 | p::l,0=>by simp [renL]
 | p::l,i+1=>by simp [renL,zDI]
theorem renL_len:∀{l:List PV},(renL rn l).length=l.length
 | []=>rfl
 | p::l=>by simp [renL,renL_len]
theorem zG4:∀{S:Store} {n:Nat} {k:Blk},(n,k)∈S->(rho rn n,renB rn k)∈renS rn S
 | (n0,k0)::S,n,k,h=>by
  rcases List.mem_cons.1 h with h | h
  ·cases h;exact List.mem_cons_self ..
  ·exact List.mem_cons_of_mem _ (zG4 h)
theorem zHY:∀{S:Store} {n:Nat} {k:Blk},(n,k)∈renS rn S->∃n0 k0,(n0,k0)∈S/\n=rho rn n0/\k=renB rn k0
 | [],n,k,h=>by cases h
 | (n0,k0)::S,n,k,h=>by
  rcases List.mem_cons.1 h with h | h
  ·cases h;exact ⟨n0,k0,List.mem_cons_self ..,rfl,rfl⟩
  ·obtain ⟨a,b,h1,h2⟩:=zHY h;exact ⟨a,b,List.mem_cons_of_mem _ h1,h2⟩
theorem zJD:∀{S:Store},(renS rn S).map (·.1)=(S.map (·.1)).map (rho rn)
 | []=>rfl
 | (n,k)::S=>by simp [renS,zJD]
theorem RD.ren {q:PV} {u:Value} (h:RD w D q u):∀p,q=ren rn p->RD w D p u:=by
 induction h with
 | v hx=>intro p e;cases p<;>simp [Pw.ren] at e;subst e;exact .v hx
 | err0=>intro p e;cases p<;>simp [Pw.ren] at e;subst e;exact .err0
 | err1=>intro p e;cases p<;>simp [Pw.ren] at e;subst e;exact .err1
 | agg hl _ ih =>
  intro p e
  cases p<;>simp [Pw.ren] at e
  subst e
  exact .agg (by rw [<- hl,renL_len]) fun i c u hc hu=>ih i _ u (by rw [zDI,hc];rfl) hu c rfl
 | tup hl _ ih =>
  intro p e
  cases p<;>simp [Pw.ren] at e
  subst e
  exact .tup (by rw [<- hl,renL_len]) fun i c u hc hu=>ih i _ u (by rw [zDI,hc];rfl) hu c rfl
 | nil h1 h2=>intro p e;cases p<;>simp [Pw.ren] at e;obtain ⟨rfl,rfl,rfl⟩:=e;exact .nil h1 h2
 | sl f h1 h2 h3 h4 h5 h6 h7 _=>intro p e;cases p<;>simp [Pw.ren] at e;obtain ⟨rfl,rfl,rfl⟩:=e;exact .sl f h1 h2 h3 h4 h5 h6 h7
 | el f h1 h2 h3 _=>intro p e;cases p<;>simp [Pw.ren] at e;obtain ⟨rfl,rfl⟩:=e;exact .el f h1 h2 h3
theorem R.ren {q:PV} {u:Value} (h:R σ w D q u):∀p,q=ren rn p->R (fun n => σ (rho rn n)) w D p u:=by
 induction h with
 | d hd=>exact fun p e=>.d (hd.ren p e)
 | loc hs=>intro p e;cases p<;>simp [Pw.ren] at e;obtain ⟨rfl,rfl⟩:=e;exact .loc hs
 | nloc0=>intro p e;cases p<;>simp [Pw.ren] at e;exact .nloc0
 | nloc1 hs=>intro p e;cases p<;>simp [Pw.ren] at e;obtain ⟨rfl,rfl⟩:=e;exact .nloc1 hs
 | ela hs=>intro p e;cases p<;>simp [Pw.ren] at e;obtain ⟨rfl,rfl,rfl,rfl⟩:=e;exact .ela hs
 | own h1=>intro p e;cases p<;>simp [Pw.ren] at e;subst e;exact R.own (σ := fun n => σ (rho rn n)) h1
 | ownb h1=>intro p e;cases p<;>simp [Pw.ren] at e;subst e;exact R.ownb (σ := fun n => σ (rho rn n)) h1
 | dat h1=>intro p e;cases p<;>simp [Pw.ren] at e;subst e;exact R.dat (σ := fun n => σ (rho rn n)) h1
 | bsl hs=>intro p e;cases p<;>simp [Pw.ren] at e;obtain ⟨rfl,rfl⟩:=e;exact .bsl hs
 | sel h1 _ ih =>
  intro p e
  cases p<;>simp [Pw.ren] at e
  obtain ⟨rfl,rfl⟩:=e
  rw [zDI] at h1
  obtain ⟨c,h2,rfl⟩:=Option.map_eq_some_iff.1 h1
  exact .sel h2 (ih c rfl)
 | junk=>intro p e;cases p<;>simp [Pw.ren] at e;exact .junk
 | fn h1 h2 _ _ i1 i2 =>
  intro p e
  cases p<;>simp [Pw.ren] at e
  obtain ⟨rfl,rfl,rfl⟩:=e
  exact .fn (by rw [<- h1,renL_len]) (by rw [<- h2,renL_len]) (fun i c u hc hu=>i1 i _ u (by rw [zDI,hc];rfl) hu c rfl) (fun i c u hc hu=>i2 i _ u (by rw [zDI,hc];rfl) hu c rfl)
 | agg hl _ ih =>
  intro p e
  cases p<;>simp [Pw.ren] at e
  subst e
  exact .agg (by rw [<- hl,renL_len]) fun i c u hc hu=>ih i _ u (by rw [zDI,hc];rfl) hu c rfl
 | tup hl _ ih =>
  intro p e
  cases p<;>simp [Pw.ren] at e
  subst e
  exact .tup (by rw [<- hl,renL_len]) fun i c u hc hu=>ih i _ u (by rw [zDI,hc];rfl) hu c rfl
theorem RD.unren {p:PV} {u:Value} (h:RD w D p u):RD w D (Pw.ren rn p) u:=by
 induction h with
 | v hx=>exact .v hx
 | err0=>exact .err0
 | err1=>exact .err1
 | agg hl _ ih =>
  refine .agg (by rw [renL_len];exact hl) fun i c u hc hu=>?_
  rw [zDI] at hc
  obtain ⟨c',h1,rfl⟩:=Option.map_eq_some_iff.1 hc
  exact ih i c' u h1 hu
 | tup hl _ ih =>
  refine .tup (by rw [renL_len];exact hl) fun i c u hc hu=>?_
  rw [zDI] at hc
  obtain ⟨c',h1,rfl⟩:=Option.map_eq_some_iff.1 hc
  exact ih i c' u h1 hu
 | nil h1 h2=>exact .nil h1 h2
 | sl f h1 h2 h3 h4 h5 h6 h7 _=>exact .sl f h1 h2 h3 h4 h5 h6 h7
 | el f h1 h2 h3 _=>exact .el f h1 h2 h3
theorem R.unren {p:PV} {u:Value} (h:R σ w D p u):(∀n∈names p,σ' (rho rn n) = σ n)->R σ' w D (Pw.ren rn p) u:=by
 induction h with
 | d hd=>exact fun _=>.d hd.unren
 | loc hs=>intro hn;exact .loc (by rw [hn _ (by simp [names])];exact hs)
 | nloc0=>intro _;exact .nloc0
 | nloc1 hs=>intro hn;exact .nloc1 (by rw [hn _ (by simp [names])];exact hs)
 | ela hs=>intro hn;exact .ela (by rw [hn _ (by simp [names])];exact hs)
 | @own n h1=>intro hn;have:=hn n (by simp [names]);rw [<- this] at h1 ⊢;exact .own h1
 | @ownb n h1=>intro hn;have:=hn n (by simp [names]);rw [<- this] at h1 ⊢;exact .ownb h1
 | @dat n p h1=>intro hn;have:=hn n (by simp [names]);rw [<- this] at h1;exact .dat h1
 | bsl hs=>intro hn;exact .bsl (by rw [hn _ (by simp [names])];exact hs)
 | sel h1 _ ih=>intro hn;exact .sel (by rw [zDI,h1];rfl) (ih fun n hm=>hn n (by simp [names,zEH h1 hm]))
 | junk=>intro _;exact .junk
 | fn h1 h2 _ _ i1 i2 =>
  intro hn
  refine .fn (by rw [renL_len];exact h1) (by rw [renL_len];exact h2) (fun i c u hc hu=>?_) (fun i c u hc hu=>?_)
  ·rw [zDI] at hc
   obtain ⟨c',h1,rfl⟩:=Option.map_eq_some_iff.1 hc
   exact i1 i c' u h1 hu fun n hm=>hn n (by simp [names,zEH h1 hm])
  ·rw [zDI] at hc
   obtain ⟨c',h1,rfl⟩:=Option.map_eq_some_iff.1 hc
   exact i2 i c' u h1 hu fun n hm=>hn n (by simp [names,zEH h1 hm])
 | agg hl _ ih =>
  intro hn
  refine .agg (by rw [renL_len];exact hl) fun i c u hc hu=>?_
  rw [zDI] at hc
  obtain ⟨c',h1,rfl⟩:=Option.map_eq_some_iff.1 hc
  exact ih i c' u h1 hu fun n hm=>hn n (by simp [names,zEH h1 hm])
 | tup hl _ ih =>
  intro hn
  refine .tup (by rw [renL_len];exact hl) fun i c u hc hu=>?_
  rw [zDI] at hc
  obtain ⟨c',h1,rfl⟩:=Option.map_eq_some_iff.1 hc
  exact ih i c' u h1 hu fun n hm=>hn n (by simp [names,zEH h1 hm])
def zE1 (l:List Nat):List PV->Bool
 | []=>true
 | c::cs=>(names c).all (fun m=>l.any (Nat.beq m))&&zE1 l cs
def zEC (l:List Nat):Store->Bool
 | []=>true
 | (_,.box _ cells)::S=>zE1 l cells&&zEC l S
 | _::S=>zEC l S
def zHK (l:List Nat):Store->Bool
 | []=>true
 | (_,.box _ cells)::S=>zE1 l cells&&zHK l S
 | (_,.tre _ _ _ _ _)::_=>false
 | _::S=>zHK l S
theorem zIy {l:List Nat}:∀{S:Store},zHK l S=true->zEC l S=true/\∀(n e s kc ke:Nat) (rows:List (List PV×Bool)),(n,Blk.tre e s kc ke rows)∉S
 | [],_=>⟨rfl,fun n e s kc ke rows h=>by cases h⟩
 | (m,b)::S,h=>by
  cases b with
  | box ty cells =>
   simp only [zHK,Bool.and_eq_true] at h
   obtain ⟨h1,h2⟩:=zIy h.2
   refine ⟨by simp only [zEC,Bool.and_eq_true];exact ⟨h.1,h1⟩,fun n e s kc ke rows hm=>?_⟩
   rcases List.mem_cons.1 hm with e' | hm
   ·cases e'
   ·exact h2 n e s kc ke rows hm
  | tre e s kc ke rows=>cases h
  | _ =>
   simp only [zHK] at h
   obtain ⟨h1,h2⟩:=zIy h
   refine ⟨by simp only [zEC];exact h1,fun n e s kc ke rows hm=>?_⟩
   rcases List.mem_cons.1 hm with e' | hm
   ·cases e'
   ·exact h2 n e s kc ke rows hm
theorem zHh {l:List Nat} {cs:List PV} (h:zE1 l cs=true) {i:Nat} {c:PV} (hi:cs[i]? = some c):∀m∈names c,m∈l:=by
 induction cs generalizing i with
 | nil=>simp at hi
 | cons x cs ih =>
  simp only [zE1,Bool.and_eq_true] at h
  cases i with
  | zero=>simp at hi;subst hi;intro m hm;exact any_beq.1 (List.all_eq_true.1 h.1 m hm)
  | succ i=>exact ih h.2 (by simpa using hi)
theorem zHg {l:List Nat} {S:Store} (h:zEC l S=true):∀(n:Nat) {ty:Nat} (cells:List PV),(n,Blk.box ty cells)∈S->∀(i:Nat) (c:PV),cells[i]? = some c->∀m∈names c,m∈l:=by
 induction S with
 | nil=>intro n ty cells hm;cases hm
 | cons x S ih =>
  intro n ty cells hm
  obtain ⟨k,b⟩:=x
  cases b with
  | box ty0 cs =>
   simp only [zEC,Bool.and_eq_true] at h
   rcases List.mem_cons.1 hm with e | hm
   ·cases e;exact fun i c hi=>zHh h.1 hi
   ·exact ih h.2 n cells hm
  | _ =>
   simp only [zEC] at h
   rcases List.mem_cons.1 hm with e | hm
   ·cases e
   ·exact ih h n cells hm
theorem zTy {rn:List (Nat×Nat)} {l:List PV} (h:renL rn l=[]):l=[]:=by
 cases l with
 | nil=>rfl
 | cons c l=>simp [renL] at h
theorem zV5 {rn:List (Nat×Nat)} {c:PV} {s:Nat} {r:List (List PV)} {x:Bool} (h:Pw.ren rn c=pfx s r x):c=pfx s r x:=by
 cases c<;>simp [Pw.ren] at h
 rename_i l
 match l,h with
 | [z,a,b],h =>
  simp [renL] at h
  obtain ⟨h0,h1,h2⟩:=h
  cases z<;>simp [Pw.ren] at h0
  cases a<;>simp [Pw.ren] at h1
  cases b<;>simp [Pw.ren] at h2
  obtain ⟨rfl,h0⟩:=h0
  obtain ⟨rfl,rfl,rfl⟩:=h1
  subst h2
  rw [zTy h0]
 | [],h=>simp [renL] at h
 | [_],h=>simp [renL] at h
 | [_,_],h=>simp [renL] at h
 | _::_::_::_::_,h=>simp [renL] at h
theorem BlkOk.ren {hdr:Value} {fp:Nat->Prop} {k:Blk} (h:BlkOk σ w D hdr fp (renB rn k)):BlkOk (fun n => σ (rho rn n)) w D hdr fp k:=by
 cases k with
 | box ty cells =>
  rcases h with h | hw
  rotate_left
  ·refine .inr (hw.map renL_len.symm (fun s r x h=>?_) (fun i c c' u h1 h2 hr=>?_) (fun _ _ r=>r) fun _ _=>rfl)
   ·rw [zDI] at h
    obtain ⟨c,h1,h2⟩:=Option.map_eq_some_iff.1 h
    rw [h1,zV5 h2]
   ·rw [zDI,h2] at h1
    simp only [Option.map_some,Option.some.injEq] at h1
    subst h1
    exact hr.ren c' rfl
  obtain ⟨b,us,h1,h2,h3,h4,h5⟩:=h
  rw [renL_len] at h3
  exact .inl ⟨b,us,h1,h2,h3,h4,fun i c u hc hu=>(h5 i _ u (by rw [zDI,hc];rfl) hu).ren c rfl⟩
 | arr e s rows=>exact h
 | tre e s kc ke rows=>exact h
 | siter s p=>exact h
 | mp kvs=>exact h
theorem BlkOk.unren {hdr:Value} {fp:Nat->Prop} {k:Blk} (h:BlkOk σ w D hdr fp k) (hn:∀{ty:Nat} (cells:List PV),k=.box ty cells->∀(i:Nat) (c:PV),cells[i]? = some c->∀n∈names c,σ' (rho rn n) = σ n):BlkOk σ' w D hdr fp (renB rn k):=by
 cases k with
 | box ty cells =>
  rcases h with h | hw
  rotate_left
  ·refine .inr (hw.map renL_len (fun s r x h=>by rw [zDI,h];rfl) (fun i c c' u h1 h2 hr=>?_) (fun _ _ r=>r) fun _ _=>rfl)
   rw [zDI,h1] at h2
   simp only [Option.map_some,Option.some.injEq] at h2
   subst h2
   exact hr.unren (hn cells rfl i c h1)
  obtain ⟨b,us,h1,h2,h3,h4,h5⟩:=h
  refine .inl ⟨b,us,h1,h2,by rw [renL_len];exact h3,h4,fun i c u hc hu=>?_⟩
  rw [zDI] at hc
  obtain ⟨c',g1,rfl⟩:=Option.map_eq_some_iff.1 hc
  exact (h5 i c' u g1 hu).unren (hn cells rfl i c' g1)
 | arr e s rows=>exact h
 | tre e s kc ke rows=>exact h
 | siter s p=>exact h
 | mp kvs=>exact h
def back (rn:List (Nat×Nat)):List Nat->Nat->Option Nat
 | [],_=>none
 | n::l,m=>if rho rn n=m then some n else back rn l m
theorem zIZ:∀{l:List Nat},(l.map (rho rn)).Nodup->∀{n:Nat},n∈l->back rn l (rho rn n)=some n
 | [],_,n,h=>by cases h
 | a::l,hd,n,h=>by
  simp only [List.map_cons,List.nodup_cons] at hd
  simp only [back]
  rcases List.mem_cons.1 h with e | h
  ·subst e;rw [if_pos rfl]
  ·rw [if_neg fun e=>hd.1 (by rw [e];exact List.mem_map.2 ⟨n,h,rfl⟩)]
   exact zIZ hd.2 h
def subN:List Nat->List Nat->Bool
 | [],_=>true
 | n::l,L=>L.any (Nat.beq n)&&subN l L
theorem zHZ:∀{l L:List Nat},subN l L=true->∀n∈l,n∈L
 | [],_,_,n,h=>by cases h
 | a::l,L,h,n,hn=>by
  simp only [subN,Bool.and_eq_true] at h
  rcases List.mem_cons.1 hn with e | hn
  ·subst e;exact any_beq.1 h.1
  ·exact zHZ h.2 n hn
theorem zJP {f:Nat->Nat}:∀{l:List Nat},(l.map f).Nodup->l.Nodup
 | [],_=>by simp
 | a::l,h=>by
  simp only [List.map_cons,List.nodup_cons] at h ⊢
  exact ⟨fun hm=>h.1 (List.mem_map.2 ⟨a,hm,rfl⟩),zJP h.2⟩
theorem zIj {f:Nat->Nat}:∀{l:List Nat},l.Nodup->(∀a∈l,∀b∈l,f a=f b->a=b)->(l.map f).Nodup
 | [],_,_=>by simp
 | a::l,h,hf=>by
  simp only [List.map_cons,List.nodup_cons] at h ⊢
  refine ⟨fun hm=>?_,zIj h.2 fun x hx y hy=>hf x (List.mem_cons_of_mem _ hx) y (List.mem_cons_of_mem _ hy)⟩
  obtain ⟨b,hb,e⟩:=List.mem_map.1 hm
  have:=hf b (List.mem_cons_of_mem _ hb) a (List.mem_cons_self ..) e
  subst this
  exact h.1 hb
theorem zK2 {L:World->Prop} {f:FuncId} {qs:List PV} {Sc Sr:Store} {N0:List Nat} {p:PV} (rn:List (Nat×Nat)) (U:List Nat) (h:FC L P f qs Sc N0 fun r S'=>r=p/\S'=Sr)
  (hU:zCV (U.map (rho rn))=true) (h1:subN (Sc.map (·.1)) U=true) (h2:subN (Sr.map (·.1)) U=true) (h3:subN N0 U=true) (h4:zEC U Sr=true) (h5:zE1 U [p]=true) :
  FC L P f (renL rn qs) (renS rn Sc) (N0.map (rho rn)) fun r S'=>r=Pw.ren rn p/\S'=renS rn Sr:=by
 have hd:=zIi hU
 have hinj:∀{a b:Nat},a∈U->b∈U->rho rn a=rho rn b->a=b:=fun ha hb e=>by
  have:=zIZ hd ha
  rw [e,zIZ hd hb] at this
  exact (Option.some.inj this).symm
 have hSc:=zHZ h1
 have hSr:=zHZ h2
 intro X σ φ w us hlay hi ha
 have hD:∀b,Dof X φ w (renS rn Sc) b↔Dof X (fun n => φ (rho rn n)) w Sc b:=fun b =>
  ⟨fun ⟨a1,a2,a3⟩=>⟨a1,a2,fun n k hm=>a3 _ _ (zG4 hm)⟩,fun ⟨a1,a2,a3⟩=>⟨a1,a2,fun n k hm=>by obtain ⟨n0,k0,b1,rfl,rfl⟩:=zHY hm;exact a3 _ _ b1⟩⟩
 have hF:∀b,foot φ (renS rn Sc) b↔foot (fun n => φ (rho rn n)) Sc b:=fun b =>
  ⟨fun ⟨n,k,hm,hf⟩=>by obtain ⟨n0,k0,b1,rfl,rfl⟩:=zHY hm;exact ⟨n0,k0,b1,hf⟩,fun ⟨n,k,hm,hf⟩=>⟨_,_,zG4 hm,hf⟩⟩
 have hFe:foot φ (renS rn Sc)=foot (fun n => φ (rho rn n)) Sc:=funext fun b=>propext (hF b)
 have hi':Inv X (fun n => σ (rho rn n)) (fun n => φ (rho rn n)) w Sc:=by
  refine ⟨?_,hi.xlt,fun b hb=>hi.lt b ((hF b).2 hb),fun n m k l a1 a2 hne=>hi.disj _ _ _ _ (zG4 a1) (zG4 a2) fun e=>hne (hinj (hSc _ (List.mem_map.2 ⟨_,a1,rfl⟩)) (hSc _ (List.mem_map.2 ⟨_,a2,rfl⟩)) e),fun n k hm=>?_⟩
  ·have:=hi.nodup
   rw [zJD] at this
   exact zJP this
  ·exact ((hi.ok _ _ (zG4 hm)).mono fun b hb=>(hD b).1 hb).ren
 rw [hFe]
 refine (h X _ _ w us (hFe▸hlay) hi' ⟨by rw [<- ha.1,renL_len],fun i c u hc hu=>((ha.2 i _ u (by rw [zDI,hc];rfl) hu).mono fun b hb=>⟨(hD b).1 hb,rfl⟩).ren c rfl⟩).mono ?_
 rintro e w' ⟨p',S',σ',φ',u,rfl,⟨rfl,rfl⟩,hi2,hru,hfr,hag,hnew⟩
 let σ2:Nat->Value:=fun m=>match back rn U m with
  | some n => σ' n
  | none => σ m
 let φ2:Nat->Nat->Prop:=fun m=>match back rn U m with
  | some n => φ' n
  | none => φ m
 have hσ : ∀n∈U,σ2 (rho rn n) = σ' n:=fun n hn=>by simp only [σ2,zIZ hd hn]
 have hφ : ∀n∈U,φ2 (rho rn n) = φ' n:=fun n hn=>by simp only [φ2,zIZ hd hn]
 have hD2:∀b,Dof X φ' w' S' b↔Dof X φ2 w' (renS rn S') b:=fun b =>
  ⟨fun ⟨a1,a2,a3⟩=>⟨a1,a2,fun n k hm=>by
   obtain ⟨n0,k0,b1,rfl,rfl⟩:=zHY hm;rw [hφ _ (hSr _ (List.mem_map.2 ⟨_,b1,rfl⟩))];exact a3 _ _ b1⟩,fun ⟨a1,a2,a3⟩=>⟨a1,a2,fun n k hm=>by
   have:=a3 _ _ (zG4 hm);rw [hφ _ (hSr _ (List.mem_map.2 ⟨_,hm,rfl⟩))] at this;exact this⟩⟩
 have hF2:∀b,foot φ2 (renS rn S') b->foot φ' S' b:=fun b ⟨n,k,hm,hf⟩=>by
  obtain ⟨n0,k0,b1,rfl,rfl⟩:=zHY hm;rw [hφ _ (hSr _ (List.mem_map.2 ⟨_,b1,rfl⟩))] at hf;exact ⟨_,_,b1,hf⟩
 refine ⟨_,_,σ2,φ2,u,rfl,⟨rfl,rfl⟩,?_,?_,hfr,fun n hn=>?_,fun b hb hlt=>hnew b (hF2 b hb) hlt⟩
 ·refine ⟨?_,hi2.xlt,fun b hb=>hi2.lt b (hF2 b hb),fun n m k l a1 a2 hne b hf hf'=>?_,fun n k hm=>?_⟩
  ·rw [zJD]
   exact zIj hi2.nodup fun a ha b hb e=>hinj (hSr _ ha) (hSr _ hb) e
  ·obtain ⟨n0,k0,b1,rfl,rfl⟩:=zHY a1
   obtain ⟨m0,l0,b2,rfl,rfl⟩:=zHY a2
   rw [hφ _ (hSr _ (List.mem_map.2 ⟨_,b1,rfl⟩))] at hf
   rw [hφ _ (hSr _ (List.mem_map.2 ⟨_,b2,rfl⟩))] at hf'
   exact hi2.disj _ _ _ _ b1 b2 (fun e=>hne (by rw [e])) b hf hf'
  ·obtain ⟨n0,k0,b1,rfl,rfl⟩:=zHY hm
   have hm0:=hSr _ (List.mem_map.2 ⟨_,b1,rfl⟩)
   rw [hσ _ hm0,hφ _ hm0]
   refine ((hi2.ok _ _ b1).mono fun b hb=>(hD2 b).1 hb).unren fun cells e i c hc m hmn=>hσ _ ?_
   subst e
   exact zHg h4 n0 cells b1 i c hc m hmn
 ·exact (hru.mono fun b hb=>⟨(hD2 b).1 hb,rfl⟩).unren fun n hn=>hσ _ (zHh (i:=0) h5 rfl n hn)
 ·obtain ⟨n0,b1,rfl⟩:=List.mem_map.1 hn
  rw [hσ _ (zHZ h3 _ b1)]
  exact hag n0 b1
end
end Go.Pw
