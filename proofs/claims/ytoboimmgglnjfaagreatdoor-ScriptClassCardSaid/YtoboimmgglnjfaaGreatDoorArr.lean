/- Arrays of texts. No program is named here. -/
import Derived.Test.YtoboimmgglnjfaaGreatDoorMapp
namespace Go.Pw
open Go
def zMh:Nat->Nat->List (Nat×Bool×Nat)
 | 0,_=>[]
 | k+1,j=>(j,false,1)::zMh k (j+1)
theorem zLv:∀{k j i:Nat} {x:Nat×Bool×Nat},nthE (zMh k j) i=some x->x=(j+i,false,1)
 | 0,j,i,x,h=>by simp [zMh,nthE] at h
 | k+1,j,0,x,h=>by simp [zMh,nthE] at h;exact h.symm
 | k+1,j,i+1,x,h=>by
  have:=zLv (k:=k) (j:=j+1) (i:=i) (x:=x) (by simpa [zMh,nthE] using h)
  rw [this]
  congr 1
  omega
section
variable {ρ : Type} {G:Ctx ρ} {m:Option ρ} {K:List (Kont ρ)} {E:Env} {S:Store} {all:Array Oper}
theorem zOH {T:Tab G.P} {o:Oper} {rest:List Oper} {t e N:Nat} {parts:Array (Nat×Operand)} {zs cs:List PV} {g:Bool} {d:Nat} (ho:o.op=.build t parts) (hg:gE all E o=some true)
  (hu:G.P.underlying t=some (.array N e)) (he:lku T.tys e=some (g,1)) (hz:zeroE T t=some zs) (hb:zH2 (zMh N 0) E parts.toList zs=some cs) (hd:o.dst=some d) (hlt:Nat.blt d G.fn.ntmps=true) (k:PO G m all rest K ((d,.agg cs)::E) S):PO G m all (o::rest) K E S:=by
 refine zC7 hg fun r hr a w ⟨σ,φ,hp⟩=>?_
 obtain ⟨z,z1,z2,z3⟩:=zJS (σ := σ) (w:=w) (D:=Dof G.X φ w S) hz
 obtain ⟨us,u1,u2,u3⟩:=zKh hp.env (place:=fun i=>some (i*1,1)) (fun i off g n h=>by have:=zLv h;cases this;simp) (us:=z.cells.toList) hb z2 z3
 have hrun:(execOp a.eval o).run G.P w=.ok (.value (.agg ⟨us⟩)) w:=by
  have hfill:Instr.fill (fun i=>some (i*1,1)) z.cells (parts.toList.map fun x=>(x.1,a.eval x.2))=some ⟨us⟩:=u1
  simp only [Nat.mul_one] at hfill
  have hs:=(zC8 (w:=w) (T.htys _ (zAW he))).2
  simp [execOp,ho,Instr.build,z1,run_underlying hu,hs,hfill]
 unfold Oper.wp
 rw [hrun,Oper.upon_value,hd]
 exact k r hr _ _ ⟨σ,φ,hp.put (zBF hlt) (.agg u2.symm u3)⟩
theorem zOI {T:Tab G.P} {o:Oper} {rest:List Oper} (ws:List (List UInt8)) {f:List UInt8->Option ρ} {t e N n d:Nat} {x ix:Operand} {kk:IntKind} {i:Int} {g:Bool} (ho:o.op=.indexAddr t x ix) (hg:gE all E o=some true)
  (hx:ev E x=some (.loc n 0)) (hi:ev E ix=some (.v (.int kk i))) (hu:G.P.underlying t=some (.array N e)) (he:lku T.tys e=some (g,1)) (hN:ws.length=N) (hd:o.dst=some d) (hlt:Nat.blt d G.fn.ntmps=true)
  (k:∀y,idx ws i=some y->PO G (f y) all rest K ((d,.loc n i.toNat)::E) S):PO G (bnd (idx ws i) f) all (o::rest) K E S:=by
 refine zDx fun y hy=>zC7 hg fun r hr a w ⟨σ,φ,hp⟩=>?_
 obtain ⟨hiv,_⟩:=(zAk hp.env hi).flat_inv
 have hxr:=zAk hp.env hx
 have hy':=zLj hy
 have h0:0<=i:=by
  unfold idx at hy
  split at hy
  ·assumption
  ·cases hy
 have hlen:i.toNat<ws.length:=(List.getElem?_eq_some_iff.1 hy').1
 have hil:i<(N:Int):=by omega
 generalize hu0:a.eval x=u at hxr
 cases hxr with
 | d hdd=>cases hdd
 | loc hs =>
  rename_i b
  have hsz:=(zC8 (w:=w) (T.htys _ (zAW he))).2
  have hrun:(execOp a.eval o).run G.P w=.ok (.value (.pointer (some ⟨b,i.toNat,none⟩))) w:=by
   simp [execOp,ho,hu0,hiv,Instr.indexAt,Instr.sureAddr,asIntOf,run_underlying hu,h0,hil,hsz,Addr.add]
   omega
  unfold Oper.wp
  rw [hrun,Oper.upon_value,hd]
  exact k y hy r hr _ _ ⟨σ,φ,hp.put (zBF hlt) (.loc hs)⟩
theorem zMi {T:Tab G.P} {o:Oper} {rest:List Oper} (ws:List (List UInt8)) {y:List UInt8} {t ty n d i:Nat} {x:Operand} (hy:ws[i]? = some y) (ho:o.op=.load t x) (hg:gE all E o=some true) (hx:ev E x=some (.loc n i))
  (hb:lkS S n=some (.box ty (ws.map fun x=>.v (.string ⟨⟨x⟩⟩)))) (ht:lku T.tys t=some (false,1)) (hd:o.dst=some d) (hlt:Nat.blt d G.fn.ntmps=true)
  (k:PO G m all rest K ((d,.v (.string ⟨⟨y⟩⟩))::E) S):PO G m all (o::rest) K E S:=by
 refine zC7 hg fun r hr a w ⟨σ,φ,hp⟩=>?_
 have hxr:=zAk hp.env hx
 generalize hu0:a.eval x=u at hxr
 cases hxr with
 | d hdd=>cases hdd
 | loc hs =>
  rename_i b
  rcases hp.inv.ok n _ (zAo hb) with ⟨b',us,hh,hφ,hul,⟨fr,hcell,hfr⟩,hcr⟩ | hw
  rotate_left
  ·rw [hw.noP] at hs;cases hs
  have:b'=b:=by rw [zFS hh] at hs;simpa using hs
  subst this
  rw [List.length_map] at hul
  have hlen:i<us.length:=by have:=(List.getElem?_eq_some_iff.1 hy).1;omega
  have hc:=hcr i (.v (.string ⟨⟨y⟩⟩)) us[i] (by rw [List.getElem?_map,hy];rfl) (List.getElem?_eq_getElem hlen)
  have hv:us[i]=.string ⟨⟨y⟩⟩:=hc.flat_inv.1
  have hrun:(execOp a.eval o).run G.P w=.ok (.value (.string ⟨⟨y⟩⟩)) w:=by
   have q1:=(zC8 (w:=w) (T.htys _ (zAW ht))).1
   have q2:w.cell? ⟨b',i,none⟩=some (.string ⟨⟨y⟩⟩):=by
    simp only [World.cell?,hcell]
    simp [List.getElem?_eq_getElem hlen,hv]
   simp [execOp,ho,hu0,Instr.loadAt,Instr.sureAddr,loadVar,q1,q2]
  unfold Oper.wp
  rw [hrun,Oper.upon_value,hd]
  exact k r hr _ _ ⟨σ,φ,hp.put (zBF hlt) (.d (.v rfl))⟩
end
end Go.Pw
