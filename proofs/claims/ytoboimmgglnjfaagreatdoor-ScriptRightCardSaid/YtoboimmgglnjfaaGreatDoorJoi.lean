/- strings.Join of zWX in a slice of one's own. No program is named here. -/
import Derived.Test.YtoboimmgglnjfaaGreatDoorShl
namespace Go.Pw
open Go
theorem zMo:∀ws:List (List UInt8),(ws.map fun x=>[PV.v (.string ⟨⟨x⟩⟩)]).flatten=ws.map fun x=>PV.v (.string ⟨⟨x⟩⟩)
 | []=>rfl
 | a::l=>by rw [List.map_cons,List.flatten_cons,zMo l];rfl
theorem zVR {L:World->Prop} {P:Program} {f:FuncId} {e n:Nat} {join:List (List UInt8)->List UInt8->List UInt8}
  (hj:∀(bk o c:Nat) (xs:List ByteArray) (sep:ByteArray) (w:World),(∀(j:Nat) x,xs[j]? = some x->w.cell? ⟨bk,o+j,none⟩=some (.string x))->bk<w.heap.size->xs.length<=140737488355328->xs.length<=c ->
   (join (xs.map (·.data.toList)) sep.data.toList).length<=140737488355328 ->
   Calls P f #[.slice (some ⟨bk,o,none⟩) xs.length c,.string sep] w fun e w'=>e=.returned (.string ⟨(join (xs.map (·.data.toList)) sep.data.toList).toArray⟩)/\RowKit.Below w.heap.size w w')
  {ws:List (List UInt8)} {sep:List UInt8} (h0:ws≠[]) (hN:ws.length<=140737488355328) (hlen:(join ws sep).length<=140737488355328) :
  FC L P f [.own n,.v (.string ⟨⟨sep⟩⟩)] [(n,.arr e 1 (ws.map fun x=>[.v (.string ⟨⟨x⟩⟩)]))] [n] fun p S'=>p=.v (.string ⟨⟨join ws sep⟩⟩)/\S'=[(n,.arr e 1 (ws.map fun x=>[.v (.string ⟨⟨x⟩⟩)]))]:=by
 intro X σ φ w us _ hi ha
 obtain ⟨u0,u1,rfl⟩:∃u0 u1,us=[u0,u1]:=by
  match us,ha.1 with
  | [u0,u1],_=>exact ⟨u0,u1,rfl⟩
 have r0:=ha.2 0 _ _ rfl rfl
 have r1:=ha.2 1 _ _ rfl rfl
 have hu1:u1=.string ⟨⟨sep⟩⟩:=r1.flat_inv.1
 have hu0:u0 = σ n:=by cases r0 with
  | d h=>cases h
  | own=>rfl
 subst hu0 hu1
 obtain ⟨_,⟨hr,_⟩ | ⟨b,vs,cap,hh,hφ,hvl,hcap,hcm,⟨fr,hb,_⟩,hc⟩⟩:=hi.ok n _ (List.mem_singleton.2 rfl)
 ·exact absurd (List.map_eq_nil_iff.1 hr) h0
 have hlw:(ws.map fun x=>[PV.v (.string ⟨⟨x⟩⟩)]).length=ws.length:=by simp
 rw [hlw] at hh hcap
 rw [hh]
 have hblt:b<w.heap.size:=(Array.getElem?_eq_some_iff.1 hb).1
 have hmap:(ws.map fun x=>(⟨⟨x⟩⟩:ByteArray)).map (·.data.toList)=ws:=by
  rw [List.map_map]
  exact (List.map_congr_left (g:=id) fun _ _=>rfl).trans (List.map_id ws)
 have hcell:∀(j:Nat) x,(ws.map fun x=>(⟨⟨x⟩⟩:ByteArray))[j]? = some x->w.cell? ⟨b,0+j,none⟩=some (.string x):=fun j x hx=>by
  rw [List.getElem?_map] at hx
  cases hw:ws[j]? with
  | none=>rw [hw] at hx;cases hx
  | some y =>
   rw [hw] at hx
   cases hx
   have hj:j<ws.length:=(List.getElem?_eq_some_iff.1 hw).1
   have hfl:(ws.map fun x=>[PV.v (.string ⟨⟨x⟩⟩)]).flatten[j]? = some (.v (.string ⟨⟨y⟩⟩)):=by
    rw [zMo,List.getElem?_map,hw];rfl
   have hv:j<vs.length:=by omega
   have hvj:=hc j _ vs[j] hfl (List.getElem?_eq_getElem hv)
   have e1:vs[j]=.string ⟨⟨y⟩⟩:=(R.d (σ := σ) hvj).flat_inv.1
   simp only [World.cell?,hb,Nat.zero_add]
   simp [List.getElem?_eq_getElem hv,e1]
 have hcall:=hj b 0 cap (ws.map fun x=>⟨⟨x⟩⟩) ⟨⟨sep⟩⟩ w hcell hblt (by simpa using hN) (by simpa using hcap.1) (by rw [hmap];exact hlen)
 rw [hmap,List.length_map] at hcall
 refine hcall.mono ?_
 rintro e' w' ⟨rfl,hbl⟩
 have hsz:=hbl.size
 have hfr:=zOt hbl
 have hD:∀b,Dof X φ w [(n,.arr e 1 (ws.map fun x=>[.v (.string ⟨⟨x⟩⟩)]))] b->Dof X φ w' [(n,.arr e 1 (ws.map fun x=>[.v (.string ⟨⟨x⟩⟩)]))] b/\w'.heap[b]? = w.heap[b]? := fun b ⟨h1,h2,h3⟩=>⟨⟨by omega,h2,h3⟩,hfr.block b h1 fun h=>h⟩
 have hI:Inv X σ φ w' [(n,.arr e 1 (ws.map fun x=>[.v (.string ⟨⟨x⟩⟩)]))]:=⟨hi.nodup,fun b hb=>by have:=hi.xlt b hb;omega,fun b hf=>⟨by have:=(hi.lt b hf).1;omega,(hi.lt b hf).2⟩,hi.disj,fun m k hm =>
  (hi.ok m k hm).next hD (fun b hb=>hfr.block b (hi.lt b ⟨m,k,hm,hb⟩).1 fun h=>h) fun _ _ _ _ _ _ _ _=>rfl⟩
 exact ⟨_,_,σ,φ,_,rfl,⟨rfl,rfl⟩,hI,.d (.v rfl),⟨hfr.os,hfr.tape,hfr.output,hfr.size,fun b hb _=>hfr.block b hb fun h=>h⟩,fun _ _=>rfl,fun b hf _=>hf⟩
end Go.Pw
