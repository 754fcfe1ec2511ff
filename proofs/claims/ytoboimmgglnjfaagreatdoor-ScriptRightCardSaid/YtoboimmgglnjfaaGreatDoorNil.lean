/- A cell that holds a nil slice becomes a name for an empty slice of one's own. No program is named here. -/
import Derived.Test.YtoboimmgglnjfaaGreatDoorDrawW
namespace Go.Pw
open Go
section
variable {ρ : Type} {G:Ctx ρ} {m:Option ρ} {K:List (Kont ρ)} {E:Env} {S:Store} {all:Array Oper}
def zJb (q:PV):Nat->List PV->Option (List PV)
 | 0,.v (.slice none 0 0)::cs=>some (q::cs)
 | i+1,c::cs=>match zJb q i cs with
  | some ds=>some (c::ds)
  | none=>none
 | _,_=>none
theorem zKV {q:PV}:∀{i:Nat} {cs ds:List PV},zJb q i cs=some ds->ds.length=cs.length
 | 0,.v (.slice none 0 0)::cs,ds,h=>by simp [zJb] at h;subst h;rfl
 | i+1,c::cs,ds,h=>by
  simp only [zJb] at h
  split at h
  ·rename_i e0 he;cases h;simp [zKV he]
  ·cases h
theorem zRi {q:PV}:∀{i:Nat} {cs ds:List PV},zJb q i cs=some ds->∀{s:Nat} {r:List (List PV)} {x:Bool},cs[0]? = some (pfx s r x)->ds[0]? = some (pfx s r x)
 | 0,.v (.slice none 0 0)::cs,ds,h,_,_,_,h0=>by simp at h0
 | i+1,c::cs,ds,h,_,_,_,h0=>by
  simp only [zJb] at h
  split at h
  ·cases h;exact h0
  ·cases h
theorem zLv {q:PV}:∀{i:Nat} {cs ds:List PV},zJb q i cs=some ds->∀(j:Nat) (d:PV),ds[j]? = some d->∃c,cs[j]? = some c/\(d=c\/(c=.v (.slice none 0 0)/\d=q))
 | 0,.v (.slice none 0 0)::cs,ds,h,j,d,hd=>by
  simp [zJb] at h;subst h
  cases j with
  | zero=>exact ⟨_,rfl,.inr ⟨rfl,by simpa using hd.symm⟩⟩
  | succ j=>exact ⟨d,by simpa using hd,.inl rfl⟩
 | i+1,c::cs,ds,h,j,d,hd=>by
  simp only [zJb] at h
  split at h
  ·rename_i e0 he;cases h
   cases j with
   | zero=>exact ⟨c,rfl,.inl (by simpa using hd.symm)⟩
   | succ j=>exact zLv he j d (by simpa using hd)
  ·cases h
theorem zJS (n e size b i:Nat) {q:PV} (hq:∀(σ : Nat->Value) (w:World) (D:Nat->Prop),σ n=.slice none 0 0->R σ w D q (.slice none 0 0)) {ty:Nat} {cs ds:List PV} {E':Env} {S' S'':Store} (hn:zEX G n=true) (hE:zE3 n E=some E') (hS:zEc n S=some S')
  (hb:lkS ((n,.arr e size [])::S') b=some (.box ty cs)) (hc:zJb q i cs=some ds) (hS':setS b (.box ty ds) ((n,.arr e size [])::S')=some S'')
  {a:Act} {w:World}:Pre G E S a w->Pre G E' S'' a w:=by
 intro ⟨σ,φ,hp⟩
 have h1:=hp.lay (w':=w) (k:=.arr e size []) (hdr:=.slice none 0 0) (fp:=fun _=>False) hn hE hS (Nat.le_refl _) (fun b hb=>hb.elim) (fun _ _ _=>rfl) rfl rfl rfl fun D' hD=>⟨by simp,.inl ⟨rfl,⟨_,rfl⟩,fun x h=>h⟩⟩
 have hm:=zBN hb
 refine ⟨_,_,h1.turn hm hS' rfl (fun _ _=>rfl) rfl rfl rfl fun D' hD=>?_⟩
 rcases h1.inv.ok b _ hm with hbk | hw
 rotate_left
 ·refine .inr (hw.map (zKV hc) (fun s r x h=>zRi hc h) (fun j c d u k0 hj k3=>?_) (fun p u hr=>hr.mono hD) fun _ _=>rfl)
  obtain ⟨c0,k1,k2⟩:=zLv hc j d hj
  rw [k0] at k1;cases k1
  rcases k2 with rfl | ⟨rfl,rfl⟩
  ·exact k3.mono hD
  ·obtain ⟨rfl,_⟩:=k3.flat_inv
   exact hq _ _ _ (zBw ..)
 obtain ⟨b',us,g1,g2,g3,g4,g5⟩:=hbk
 refine .inl ⟨b',us,g1,g2,by rw [g3,zKV hc],g4,fun j d u hj hu=>?_⟩
 obtain ⟨c0,k1,k2⟩:=zLv hc j d hj
 have k3:=g5 j c0 u k1 hu
 rcases k2 with rfl | ⟨rfl,rfl⟩
 ·exact k3.mono hD
 ·obtain ⟨rfl,_⟩:=k3.flat_inv
  exact hq _ _ _ (zBw ..)
theorem zTg (n:Nat) (σ : Nat->Value) (w:World) (D:Nat->Prop) (h : σ n=.slice none 0 0):R σ w D (.own n) (.slice none 0 0):=by
 have:R σ w D (.own n) (σ n):=.own (by rw [h];rfl)
 rwa [h] at this
theorem zRq (n:Nat) (σ : Nat->Value) (w:World) (D:Nat->Prop) (h : σ n=.slice none 0 0):R σ w D (.ownb n) (.slice none 0 0):=by
 have:R σ w D (.ownb n) (σ n):=.ownb (by rw [h];rfl)
 rwa [h] at this
theorem zEj {ops:List Oper} (n e size b i:Nat) {ty:Nat} {cs ds:List PV} {E':Env} {S' S'':Store} (hn:zEX G n=true) (hE:zE3 n E=some E') (hS:zEc n S=some S')
  (hb:lkS ((n,.arr e size [])::S') b=some (.box ty cs)) (hc:zJb (.own n) i cs=some ds) (hS':setS b (.box ty ds) ((n,.arr e size [])::S')=some S'') (k:PO G m all ops K E' S''):PO G m all ops K E S :=
 fun r hr a w hp=>k r hr a w (zJS n e size b i (zTg n) hn hE hS hb hc hS' hp)
theorem zHV {ops:List Oper} (n e size b i:Nat) {ty:Nat} {cs ds:List PV} {E':Env} {S' S'':Store} (hn:zEX G n=true) (hE:zE3 n E=some E') (hS:zEc n S=some S')
  (hb:lkS ((n,.arr e size [])::S') b=some (.box ty cs)) (hc:zJb (.ownb n) i cs=some ds) (hS':setS b (.box ty ds) ((n,.arr e size [])::S')=some S'') (k:PO G m all ops K E' S''):PO G m all ops K E S :=
 fun r hr a w hp=>k r hr a w (zJS n e size b i (zRq n) hn hE hS hb hc hS' hp)
end
end Go.Pw
