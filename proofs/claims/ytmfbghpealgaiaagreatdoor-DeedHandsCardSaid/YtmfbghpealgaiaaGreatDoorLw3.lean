/- Plain laws on the models, one behind the other. -/
import Derived.Test.YtmfbghpealgaiaaGreatDoorLw2
/- What no operation changes; the law DeedKeeps of layer 18 (deed). -/
namespace Go.Proofs.YtmfbghpealgaiaaGreatDoor
open Go Go.Pw
open Bool renaming not_true->iE
variable {many k:Int} {r:Forest×List Note×Int}
section
structure Keep (w v:World):Prop where
 wr:WR v
 builds:v.Builds=w.Builds
 defs:v.Desk.Defs=w.Desk.Defs
 busy:v.Desk.Busy=w.Desk.Busy
 classes:v.Classes=w.Classes
 states:∀(i:Nat) (s:State),w.States[i]? = some s->∃s',v.States[i]? = some s'/\s'.Phase=s.Phase/\s'.Def=s.Def
 todos:∀(i:Nat) (a:List Todo),w.Line.Todos[i]? = some a->∃b,v.Line.Todos[i]? = some (a++b)
theorem Keep.enl {w v:World} (h:Keep w v) {due:List Due} (c:∀u∈due,InN v.Forest.Nodes u.Node/\zJX v.Desk.Defs.length u.Todo=true):Keep w (zZn v due):=by
 refine ⟨h.wr.enl c,h.builds,h.defs,h.busy,h.classes,h.states,fun i a d=>?_⟩
 obtain ⟨b,f⟩:=h.todos i a d
 have e:=zWZ (l:=v.Line) (ts:=v.Tasks) i (fun u g=>h.wr.inL (c u g).1)
 rw [f] at e
 exact ⟨b++zaW due i,by rw [<- List.append_assoc];exact e⟩
theorem Keep.refl {w:World} (h:WR w):Keep w w:=⟨h,rfl,rfl,rfl,rfl,fun _ s c=>⟨s,c,rfl,rfl⟩,fun _ a b=>⟨[],by rw [List.append_nil];exact b⟩⟩
end
section
def zXV (w:World) (r:Forest×List Note×Int) (q:World×Int×Int):Prop:=q.2.2=r.2.2/\((r.2.2≠0/\q.1=w/\r.1=w.Forest)\/(r.2.2=0/\zAJ r.1=true/\zIW w r.1/\ze7 w r.1 r.2.1 q.1))
def doBy (fu:Nat) (w:World) (r:Forest×List Note×Int):Option (World×Int×Int):=cnd (r.2.2 != 0) (some (w,-1,r.2.2)) (bnd (zIM fu w r.1 r.2.1) fun t=>some (t.1,-1,0))
section
variable {fu B:Nat} {w:World} (hfu:B+3000000<fu) (hB:B+3000000<=900000000) (hS:WS B w) (hR:WR w)
include hfu hB hS hR
theorem zO4 {o:Op} {m:Option (Forest×List Note×Int)} (s:m=some r) (ha:zeV o (-1) (w.Forest.Nodes.length:Int)=(o,0)) (t:zf8 o.Kind=true) (n:InN w.Forest.Nodes o.A)
  (g:o.Kind≠17/\o.Kind≠18/\o.Kind≠23/\o.Kind≠24/\o.Kind≠2/\o.Kind≠12) (p:∀h:zAR,h.World=w->zGv fu o h=bnd m fun b=>bnd (zCa fu b.1 b.2.1 b.2.2) fun i=>some (i,h))
  (hr:(r.2.2≠0/\r.1=w.Forest)\/(r.2.2=0/\zAJ r.1=true/\zIW w r.1/\r.2.1.length<=2000000)):∃q,zCI fu w o=some q/\zXV w r q/\doBy fu w r=some q:=by
 subst s
 have d:zDo fu o ⟨w,-1⟩=some (0,false,⟨w,-1⟩):=by
  rcases ask_ok (fu:=fu) (B:=B) (k := -1) (by omega) (by omega) hS hR n with ⟨h,_⟩ | ⟨h,_⟩ | ⟨_,_,_,_,h⟩
  ·exact absurd h g.1
  ·omega
  ·exact h
 unfold zCI zI2
 rw [zeW,zAA,ha]
 simp only
 rw [zAd,iP rfl,zU5,iE,zAF,zUk hS (by omega) (by omega),zAA,WR.iff.2 hR,iE,zAF,zf9,zAA,t,iE,zAF]
 unfold zJ8
 rw [d,zAA]
 simp only [zAF]
 rw [p _ rfl,zAA]
 unfold zCa
 rw [zAA,zAA]
 simp only
 rw [zAd]
 rcases hr with ⟨a,c⟩ | ⟨a,c,j,C⟩
 ·rw [iN a,zAA,zAd,iN a]
  exact ⟨_,rfl,⟨rfl,.inl ⟨a,rfl,c⟩⟩,by unfold doBy;rw [zAd,iN a]⟩
 ·have e:=zAI c
  obtain ⟨D,z,l,y⟩:=zeT (fu:=fu) (B:=B) (w:=w) (f:=r.1) (notes:=r.2.1) (by omega) (by omega) (by omega) hS hR (by have:=e.few;omega) (fun x hx=>by have:=e.kids x hx;omega)
  rw [iP a,l,zAA,zAd]
  rcases y with ⟨_,_,u⟩ | ⟨rfl,_,_,v⟩
  ·exact absurd ⟨c,j⟩ u
  ·rw [iP rfl,zAd,iN g.2.2.2.2.1,zAd,iN g.2.2.2.2.2,zAA,zAd,iP rfl]
   exact ⟨_,rfl,⟨a.symm,.inr ⟨a,c,j,v⟩⟩,by unfold doBy;rw [zAd,iP a,l,zAA]⟩
end
theorem zY7 {w:World} {g:Forest} (c:g.Most=w.Forest.Most) (h:Ext w.Forest.Nodes g.Nodes):zIW w g:=by
 refine ⟨c,h.1,fun i x hx=>?_⟩
 have hi:=(List.getElem?_eq_some_iff.1 hx).1
 obtain ⟨v,a,b,_⟩:=h.2 (i:Int) x (by rw [zLR];exact hx)
 rw [zLR] at a
 exact ⟨v,a,b⟩
theorem zVC {w:World} {g:Forest} (c:g.Most=w.Forest.Most) (h:zOB w.Forest.Nodes g.Nodes):zIW w g:=by
 refine ⟨c,by rw [h.1];exact Nat.le_refl _,fun i x hx=>?_⟩
 obtain ⟨v,a,b,_⟩:=h.2 (i:Int) x (by rw [zLR];exact hx)
 rw [zLR] at a
 exact ⟨v,a,b⟩
theorem zX0 {w:World} (hR:WR w) {r:Forest×List Note×Int} {N:Nat} (h:Hand w.Forest N r) (i:N<=1600):(r.2.2≠0/\r.1=w.Forest)\/(r.2.2=0/\zAJ r.1=true/\zIW w r.1/\r.2.1.length<=2000000):=by
 rcases h with ⟨e,d,rfl⟩ | ⟨m,g,l,j,h,rfl⟩
 ·exact .inl ⟨d,rfl⟩
 ·obtain ⟨a,b,c,f⟩:=h.all hR.fr
  exact .inr ⟨rfl,a,zVC b c,by simp only;omega⟩
theorem zau {w:World} (h:ze4 w.Forest r):(r.2.2≠0/\r.1=w.Forest)\/(r.2.2=0/\zAJ r.1=true/\zIW w r.1/\r.2.1.length<=2000000):=by
 rcases h with ⟨e,d,rfl⟩ | ⟨g,l,a,b,c,f,_,rfl⟩
 ·exact .inl ⟨d,rfl⟩
 ·exact .inr ⟨rfl,a,zY7 b (Ext.of_bare c),by simp only;omega⟩
theorem zbW {fu B:Nat} {w:World} {q:World×Int×Int} (hfu:1000000000<fu) (hS:WS B w) (hB:B<=100000000) (hR:WR w) (h:zXV w r q) (g:r.2.1.length<=2000000\/r.2.2≠0):zBy fu q.1 q.1=some true/\zBC fu q.1.Forest r.1=some true/\q.2.2=r.2.2:=by
 obtain ⟨d,e⟩:=h
 rcases e with ⟨f,a,b⟩ | ⟨f,a,b,c⟩
 ·rw [a,b]
  exact ⟨zS9 hfu hS (by omega) hR,(zAI hR.fr).same (by omega),d⟩
 ·have l:=zZb hR a b c
  have j:=zZc hS hR a b c
  have i:=g.resolve_right (by omega)
  rw [c.same.1]
  exact ⟨zS9 hfu j (by omega) l,(zAI a).same (by omega),d⟩
theorem zUP {fu B:Nat} {w:World} {o o':Op} (hfu:1000000000<fu) (hS:WS B w) (hB:B<=100000000) (hR:WR w) (g:r.2.1.length<=2000000\/r.2.2≠0)
  (h:∃q,zCI fu w o=some q/\zXV w r q/\doBy fu w r=some q) (c:∃q,zCI fu w o'=some q/\zXV w r q/\doBy fu w r=some q) :
  ∃q,zCI fu w o=some q/\zCI fu w o'=some q/\zBy fu q.1 q.1=some true/\zBC fu q.1.Forest r.1=some true/\q.2.2=r.2.2:=by
 obtain ⟨q,d,e,f⟩:=h
 obtain ⟨i,b,_,a⟩:=c
 rw [f] at a
 obtain rfl:=Option.some.inj a
 exact ⟨q,d,b,zbW hfu hS hB hR e g⟩
theorem zap (b:many<=400) (a:0<=k/\k<many):zY5 110 k=true:=by
 unfold zY5
 rw [iN (by decide),iP rfl,zKK.2 (show 0<=k/\k<((400:Nat):Int) by omega)]
 simp
theorem fit_c (b:many<=400) (a:k = -1\/(0<=k/\k<many)):zY5 111 k=true:=by
 unfold zY5
 rw [iP rfl]
 rcases a with rfl | a
 ·rfl
 ·rw [zKK.2 (show 0<=k/\k<((400:Nat):Int) by omega)]
  simp
theorem zfA (a:0<=k/\k<many):zWH 110 k (-1) many=some k:=by
 unfold zWH
 rw [iN (by simp),iN (show ¬k = -2 by omega),iN (show ¬k = -3 by omega),iN (by omega)]
theorem aim_c (a:k = -1\/(0<=k/\k<many)):zWH 111 k (-1) many=some k:=by
 unfold zWH
 rcases a with rfl | a
 ·rw [iP (.inr (.inr ⟨rfl,rfl⟩))]
 ·rw [iN (fun h=>h.elim (by decide) fun h=>h.elim (by decide) fun h=>by omega),iN (show ¬k = -2 by omega),iN (show ¬k = -3 by omega),iN (by omega)]
theorem zZ0 {K x y c:Int} (b:(zKl K)=([110,110,111,46,46],true)) (a:many<=400) (hx:0<=x/\x<many) (hy:0<=y/\y<many) (d:c = -1\/(0<=c/\c<many)):zeV ⟨K,x,y,c,[],[],false⟩ (-1) many=(⟨K,x,y,c,[],[],false⟩,0):=by
 have hr:zMU ⟨K,x,y,c,[],[],false⟩=true:=by
  unfold zMU
  simp only [b]
  rw [zap a hx,zap a hy,fit_c a d]
  rfl
 unfold zeV
 rw [iP hr]
 simp only [b]
 rw [zfA hx,zfA hy,aim_c d]
theorem zTS {K x:Int} {s t:Bs} {d e:UInt8} (a:(zKl K)=([110,46,46,d,e],true)) (b:many<=400) (hx:0<=x/\x<many) (c:zY6 d s=true) (f:zY6 e t=true):zeV ⟨K,x,0,0,s,t,false⟩ (-1) many=(⟨K,x,0,0,s,t,false⟩,0)/\zMU ⟨K,x,0,0,s,t,false⟩=true:=by
 have hr:zMU ⟨K,x,0,0,s,t,false⟩=true:=by
  unfold zMU
  simp only [a]
  rw [zap b hx,c,f]
  rfl
 refine ⟨?_,hr⟩
 unfold zeV
 rw [iP hr]
 simp only [a]
 rw [zfA hx]
 rfl
end
section
theorem zat:zKl 6=([110,110,111,46,46],true)/\zKl 26=([110,110,111,46,46],true):=by decide
theorem zas:zKl 7=([110,46,46,46,46],true)/\zKl 27=([110,46,46,46,46],true):=by decide
theorem zWi:zKl 9=([110,46,46,115,115],true)/\zKl 28=([110,46,46,115,115],true):=by decide
theorem zWl {fu:Nat} {w:World} (hfu:1000000000<fu) (hS:WS 60 w) (hR:WR w) {x y c:Int} {s t:Bs} (hx:InN w.Forest.Nodes x) (hy:InN w.Forest.Nodes y) (p:c = -1\/InN w.Forest.Nodes c) (hs:s.length<=300):zBa fu w s t x y c=some true:=by
 have hr:=hR.fr
 have u:=(zAI hr).few
 have l:(w.Forest.Nodes.length:Int)<=400:=by omega
 have j:(60:Nat)+3000000<fu:=by omega
 have a:1000<fu:=by omega
 unfold zBa
 -- put
 obtain ⟨r,p1,W⟩:=zWq hr a x y c
 have e:=zX0 hR W (by split<;>omega)
 have pl:r.2.1.length<=2000000\/r.2.2≠0:=e.elim (fun h=>.inr h.1) fun h=>.inl h.2.2.2
 obtain ⟨q,C,D,E,F,G⟩:=zUP (o:=⟨6,x,y,c,[],[],false⟩) (o':=⟨26,x,y,c,[],[],false⟩) hfu hS (by omega) hR pl
  (zO4 j (by omega) hS hR p1 (zZ0 zat.1 l hx hy p) (by rfl) hx ⟨by simp,by simp,by simp,by simp,by simp,by simp⟩ (fun h b=>by subst b;rfl) e)
  (zO4 j (by omega) hS hR p1 (zZ0 zat.2 l hx hy p) (by rfl) hx ⟨by simp,by simp,by simp,by simp,by simp,by simp⟩ (fun h b=>by subst b;rfl) e)
 rw [C,zAA,D,zAA,p1,zAA,zAd,iP rfl,zAd,iP G,E,zAA,iE,zAF,F,zAA,iE,zAF]
 -- out
 obtain ⟨v,m,T⟩:=zVh hr a x
 have d:=zX0 hR T (by omega)
 have V:v.2.1.length<=2000000\/v.2.2≠0:=d.elim (fun h=>.inr h.1) fun h=>.inl h.2.2.2
 obtain ⟨q2,H,I,J,K,L⟩:=zUP (o:=⟨7,x,0,0,[],[],false⟩) (o':=⟨27,x,0,0,[],[],false⟩) hfu hS (by omega) hR V
  (zO4 j (by omega) hS hR m (zTS zas.1 l hx (by rfl) (by rfl)).1 (by rfl) hx ⟨by simp,by simp,by simp,by simp,by simp,by simp⟩ (fun h b=>by subst b;rfl) d)
  (zO4 j (by omega) hS hR m (zTS zas.2 l hx (by rfl) (by rfl)).1 (by rfl) hx ⟨by simp,by simp,by simp,by simp,by simp,by simp⟩ (fun h b=>by subst b;rfl) d)
 rw [H,zAA,I,zAA,m,zAA,zAd,iP rfl,zAd,iP L,J,zAA,iE,zAF,K,zAA,iE,zAF]
 -- set
 rw [zVj]
 cases g:zMU ⟨9,x,0,0,s,t,false⟩ with
 | false =>
  have:zCI fu w ⟨9,x,0,0,s,t,false⟩=some (w,-1,1):=by
   unfold zCI zI2
   rw [zeW,zAA]
   unfold zeV
   rw [iN (by rw [g];simp)]
   rfl
  rw [this,zAA,zAA]
  rfl
 | true =>
  have i:zY6 115 s=true/\zY6 115 t=true:=by
   unfold zMU at g
   simp only [zWi.1,Bool.and_eq_true] at g
   exact g.2.2.2.2
  obtain ⟨z,n,X⟩:=zd5 hr a (s:=s) (by omega) (by omega) x t
  have f:=zau X
  have sl:z.2.1.length<=2000000\/z.2.2≠0:=f.elim (fun h=>.inr h.1) fun h=>.inl h.2.2.2
  obtain ⟨q3,M,N,P,Q,S⟩:=zUP (o:=⟨9,x,0,0,s,t,false⟩) (o':=⟨28,x,0,0,s,t,false⟩) hfu hS (by omega) hR sl
   (zO4 j (by omega) hS hR n (zTS zWi.1 l hx i.1 i.2).1 (by rfl) hx ⟨by simp,by simp,by simp,by simp,by simp,by simp⟩ (fun h b=>by subst b;rfl) f)
   (zO4 j (by omega) hS hR n (zTS zWi.2 l hx i.1 i.2).1 (by rfl) hx ⟨by simp,by simp,by simp,by simp,by simp,by simp⟩ (fun h b=>by subst b;rfl) f)
  rw [M,zAA,zAA,iE,zAF,N,zAA,n,zAA,zBD,iP rfl,zBD,iP S,P,zAA,zAW,Q,zAA]
theorem deedHands (w:World) (a b c:Int) (s t:Bs) (ha:0<=a/\a<=255) (q:0<=b/\b<=255):∃fu,zBj fu w a b c s t=some true:=by
 refine ⟨10000000000,?_⟩
 unfold zBj
 rw [zfH,zAA,iE,zAF]
 generalize j:(10000000000:Nat)=fu
 have hfu:1000000000<fu:=by omega
 obtain ⟨r,o,p⟩:=zgk hfu (w:=w)
 rw [o,zAA]
 cases r with
 | false=>rfl
 | true =>
  obtain ⟨hS,z⟩:=p rfl
  rw [iE,zAF,zAN]
  by_cases f:s.length<=300
  ·rw [iN (by omega),zAN]
   by_cases D:t.length<=300
   ·rw [iN (by omega),zUk hS (by omega) (by omega),zAA]
    cases v:zS8 w with
    | false=>rfl
    | true =>
     have hR:=WR.iff.1 v
     have C:=(zAs hR.fr).1
     have i:=(zAI hR.fr).few
     have u:=hR.st
     obtain ⟨x,m,hx⟩:=zeu ha.1 (show 1<=w.States.length by omega)
     obtain ⟨y,n,hy⟩:=zeu q.1 (show 1<=w.States.length by omega)
     have d:InN w.Forest.Nodes x:=by unfold InN;omega
     have e:InN w.Forest.Nodes y:=by unfold InN;omega
     rw [iE,zAF,zXF (by omega) (by omega),zAA,m,zAA,zXF (by omega) (by omega),zAA,n,zAA,zAN,zAN]
     by_cases g:c < -1
     ·rw [iP g];exact zWl hfu hS hR d e (.inl rfl) f
     ·rw [iN g]
      by_cases h:c>=(w.States.length:Int)
      ·rw [iP h];exact zWl hfu hS hR d e (.inl rfl) f
      ·rw [iN h]
       refine zWl hfu hS hR d e ?_ f
       by_cases l:c = -1
       ·exact .inl l
       ·exact .inr (by unfold InN;omega)
   ·rw [iP (by omega)]
  ·rw [iP (by omega)]
end
end Go.Proofs.YtmfbghpealgaiaaGreatDoor
