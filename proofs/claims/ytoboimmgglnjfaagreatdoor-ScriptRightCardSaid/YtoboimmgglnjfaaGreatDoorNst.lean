/- Slices of the call's own within the rows of another one. No program is named here. -/
import Derived.Test.YtoboimmgglnjfaaGreatDoorMapp
import Derived.Test.YtoboimmgglnjfaaGreatDoorNil
namespace Go.Pw
open Go
section
variable {ρ : Type} {G:Ctx ρ} {m:Option ρ} {K:List (Kont ρ)} {E:Env} {S:Store} {all:Array Oper}
theorem Pre'.redo {a:Act} {w w':World} {σ σ2:Nat->Value} {φ φ2:Nat->Nat->Prop} {E2:Env} {S2:Store} (h:Pre' G E S a w σ φ) (hos:w'.os=w.os) (htape:w'.tape=w.tape) (hout:w'.output=w.output) (hsz:w.heap.size<=w'.heap.size)
  (hnd:(S2.map (·.1)).Nodup) (hfoot:∀b,foot φ2 S2 b->foot φ S b\/(w.heap.size<=b/\b<w'.heap.size)) (hkeep:∀b,b<w.heap.size->¬foot φ S b->w'.heap[b]? = w.heap[b]?)
  (hdisj:∀n m k l,(n,k)∈S2->(m,l)∈S2->n≠m->∀b,φ2 n b->¬φ2 m b)
  (hok:∀n k,(n,k)∈S2->∀D',(∀b,Dof G.X φ w S b->D' b/\w'.heap[b]? = w.heap[b]?)->BlkOk σ2 w' D' (σ2 n) (φ2 n) k)
  (henv:∀t p,lk E2 t=some p->∃u,a.tmps[t]? = some u/\∀D',(∀b,Dof G.X φ w S b->D' b/\w'.heap[b]? = w.heap[b]?)->R σ2 w' D' p u)
  (hag:∀n∈G.N0,σ2 n = σ n):Pre' G E2 S2 a w' σ2 φ2:=by
 have hD:∀b,Dof G.X φ w S b->Dof G.X φ2 w' S2 b/\w'.heap[b]? = w.heap[b]? := fun b ⟨h1,h2,h3⟩=>by
  refine ⟨⟨by omega,h2,fun n k hm hf=>?_⟩,hkeep b h1 fun ⟨n,k,hm,hf⟩=>h3 n k hm hf⟩
  rcases hfoot b ⟨n,k,hm,hf⟩ with ⟨n',k',g1,g2⟩ | ⟨g1,_⟩
  ·exact h3 n' k' g1 g2
  ·omega
 refine ⟨h.dk hkeep,h.size,fun t p ht=>let ⟨u,hu,hr⟩:=henv t p ht;⟨u,hu,hr _ hD⟩,⟨hnd,fun b hb=>by have:=h.inv.xlt b hb;omega,fun b hf=>?_,hdisj,fun n k hm=>hok n k hm _ hD⟩,
  ⟨hos.trans h.fr.os,htape.trans h.fr.tape,hout.trans h.fr.output,by have:=h.fr.size;omega,fun b hb hx=>?_⟩,fun n hn=>(hag n hn).trans (h.agree n hn),fun b hf hlt=>?_⟩
 ·rcases hfoot b hf with g | ⟨g1,g2⟩
  ·obtain ⟨g1,g2⟩:=h.inv.lt b g;exact ⟨by omega,g2⟩
  ·exact ⟨g2,fun hx=>by have:=h.inv.xlt b hx;omega⟩
 ·have:=h.fr.size
  rw [hkeep b (by omega) fun hf=>hx (h.new b hf hb)]
  exact h.fr.block b hb hx
 ·have:=h.fr.size
  rcases hfoot b hf with g | ⟨g1,_⟩
  ·exact h.new b g hlt
  ·omega
theorem zRY {n:Nat} {S S':Store} (h:zEc n S=some S'):∀m k,(m,k)∈S'->m≠n/\∃k0,(m,k0)∈S/\Went [n] k0 k:=fun m k hm=>by
 have hk:zHR [n] S=some S':=by simp [zHR,h]
 obtain ⟨g1,g2⟩:=zI6 hk m k hm
 exact ⟨by simpa using g1,g2⟩
theorem zTW {n:Nat} {E E':Env} (h:zE3 n E=some E') {σ : Nat->Value} {w:World} {D:Nat->Prop} {tmps:Array Value} (hE:InvE σ w D E tmps) {σ2:Nat->Value} (hσ : ∀x,x≠n -> σ2 x = σ x) {w':World} :
  ∀t p,lk E' t=some p->∃u,tmps[t]? = some u/\∀D',(∀b,D b->D' b/\w'.heap[b]? = w.heap[b]?)->R σ2 w' D' p u:=fun t p ht=>by
 have hk:zGM [n] E=some E':=by simp [zGM,h]
 rcases zKN hk t p ht with rfl | ⟨g1,g2⟩
 ·obtain ⟨q,hq⟩:=zI5 hk t _ ht
  obtain ⟨u,hu,_⟩:=hE t q hq
  exact ⟨u,hu,fun _ _=>.junk⟩
 ·obtain ⟨u,hu,hr⟩:=hE t p g1
  exact ⟨u,hu,fun D' hD=>(hr.mono hD).agree fun x hx=>hσ x fun e=>zIE (g2 n (by simp)) x hx e⟩
theorem zM0 {P:Program} {σ : Nat->Value} {w:World} {D:Nat->Prop} {t:TypeId} {g:Bool} {n:Nat} (ht:tyOf P t=some (g,n)) {q:PV} {ad:Addr} {cs:List PV} (hc:∀(k:Nat) (c:PV),cs[k]? = some c->∃x,w.cell? (ad.add k)=some x/\R σ w D c x)
  (hq:zIG g n cs=some q):∃x,(Instr.loadAt t (.pointer (some ad))).run P w=.ok x w/\R σ w D q x:=by
 obtain ⟨h1,h2⟩:=zGr (w:=w) ht
 cases g with
 | false =>
  simp only [zIG] at hq
  rw [zG0] at hq
  obtain ⟨x,hx,hrx⟩:=hc 0 _ hq
  simp only [Addr.add,if_true] at hx
  exact ⟨x,by simp [Instr.loadAt,Instr.sureAddr,loadVar,h1,hx],hrx⟩
 | true =>
  simp only [zIG] at hq
  split at hq<;>simp at hq
  rename_i l hl
  subst hq
  obtain ⟨hl1,hl2⟩:=zMK hl
  obtain ⟨us,hlen,hus⟩:=zLI (cs:=l) (ad:=ad) (fun k c hk=>hc k c (by
   rw [hl1,List.getElem?_take] at hk
   split at hk
   ·exact hk
   ·simp at hk))
  refine ⟨.agg ⟨us⟩,?_,.agg hlen.symm fun i c x hc' hx=>(hus i x hx).2 c hc'⟩
  have:=run_loadCells_list (P:=P) w ad us (fun j v hj=>(hus j v hj).1)
  rw [hlen,hl2] at this
  simp [Instr.loadAt,Instr.sureAddr,loadVar,h1,h2,this]
def zJc (b:Bool):Option Unit:=if b then some () else none
end
end Go.Pw
