/- The program's iterator programs of script. -/
import Derived.Test.YtoboimmgglnjfaaGreatDoorEach
import Derived.Test.YtoboimmgglnjfaaGreatDoorData
namespace Go.Proofs.YtoboimmgglnjfaaGreatDoor
open Go Go.Pw
set_option maxRecDepth 100000
set_option maxHeartbeats 10000000
set_option linter.unusedVariables false
abbrev zPo:=List Op×Int
def zJT (c:Class):List zPo:=(c.Peek,60)::(c.Make,60)::c.Hooks.map fun h=>(h.Do,60)
def zBJ (s:Script):List zPo:=s.Classes.flatMap zJT++[(s.Main,300)]
abbrev zR5 (y:zPo):List PV:=[.sl 7 false (y.1.map cOp),Y y.2]
abbrev zFl (s:Script):Store:=[(0,.box 25 [.sl 5 false (s.Classes.map zAM),.sl 7 false (s.Main.map cOp)])]
abbrev zHX (c:Class):Nat×Blk:=(4,.box 51 [O c.Form,.sl 1 false (c.Watch.map cStr),.sl 7 false (c.Peek.map cOp),.sl 7 false (c.Make.map cOp),.sl 2 false (c.Hooks.map zAP)])
abbrev zR6 (s:Script) (l:Nat) (i:Nat):Env:=[(0,.fn (.yield l) [] []),(1,.loc 0 0),(8,.sl 5 false (s.Classes.map zAM)),(9,Y (s.Classes.length:Nat)),(10,Y (i:Nat))]
def at1 {α : Type} (l:List α) (i:Nat):Option α := bnd (idx l (i:Int)) fun y=>some y
abbrev zLK (s:Script) (l:Nat) (i:Nat) (c:Class):Env:=[(4,.loc 4 0),(0,.fn (.yield l) [] []),(1,.loc 0 0),(8,.sl 5 false (s.Classes.map zAM)),(9,Y (s.Classes.length:Nat)),(10,Y (i:Nat))]
abbrev zLL (s:Script) (l:Nat) (i:Nat) (c:Class) (j:Nat):Env:=(27,.sl 2 false (c.Hooks.map zAP))::(28,Y (c.Hooks.length:Nat))::(29,Y (j:Nat))::zLK s l i c
abbrev hookB (h:Hook):Nat×Blk:=(6,.box 54 [Y h.Kind,.sl 7 false (h.Do.map cOp)])
theorem zOW {α : Type} {l:List α} {i:Nat} {y : α} (h:l[i]? = some y):at1 l i=some y:=by
 unfold at1 idx
 rw [if_pos (by omega),Int.toNat_natCast,h];rfl
theorem zQ9 {α : Type} {l:List α} {i:Nat} (h:i<l.length):∃y,l[i]? = some y/\l.drop i=y::l.drop (i+1):=by
 refine ⟨l[i],List.getElem?_eq_getElem h,List.drop_eq_getElem_cons h⟩
theorem zOG (s:Script):zQQ zAf Tryz.prog 68 25 [.sl 5 false (s.Classes.map zAM),.sl 7 false (s.Main.map cOp)] zR5 (zBJ s):=by
 refine zP3 Tryz.func68 Z Z Z fun l J hY a w hp=>?_
 have hnm:∀y:zPo,∀p∈zR5 y,names p=[]:=fun y p h=>by
  simp only [zR5,List.mem_cons,List.not_mem_nil,or_false] at h
  rcases h with rfl | rfl<;>rfl
 refine wpIn_seq (wpIn_seq (zJW (ρ := Unit) (m:=some ()) (r:=()) (E1:=fun _=>zR6 s l 0) (S1:=fun _=>zFl s) hY (fun w0 X X0 σ0 hl=>?_) Z hp fun a w hp=>?_))
 ·refine zAC ?_
  refine zDm (T:=tab) 2 Z Z ?_
  refine zAm (T:=tab) zAM s.Classes Z Z Z Z Z Z Z Z ?_
  refine zDm (T:=tab) 1 Z Z ?_
  refine zAE ?_
  exact zHC ⟨Z,Z,Z,Z,Z,trivial⟩ ⟨Z,trivial⟩ Z
 refine wpIn_block (zU6 (n:=s.Classes.length) (fun k a w=>∃i,i+k=s.Classes.length/\PreY Tryz.f68 J (some ((s.Classes.drop i).flatMap zJT++[(s.Main,300)])) (zR6 s l i) (zFl s) a w) ?_ ⟨0,by omega,hp⟩)
 rintro k a w ⟨i,hi,hp⟩
 refine wpIn_seq (zJW (ρ := Unit) (m:=some ()) (r:=()) (E1:=fun _=>(11,O (decide ((i:Int)<(s.Classes.length:Nat))))::zR6 s l i) (S1:=fun _=>zFl s) hY (fun w0 X X0 σ0 hl=>?_) Z hp fun a w hp=>?_)
 ·refine zAC ?_
  refine zDm (T:=tab) 1 Z Z ?_
  refine zAE ?_
  exact zHC ⟨Z,Z,Z,Z,Z,Z,trivial⟩ ⟨Z,trivial⟩ Z
 cases k with
 | zero =>
  have hd:decide ((i:Int)<(s.Classes.length:Nat))=false:=by simp;omega
  rw [hd] at hp
  have hdr:s.Classes.drop i=[]:=by rw [List.drop_eq_nil_iff];omega
  rw [hdr] at hp
  refine wpIn_seq (wpIn_cond_false (hp.eval Z) (wpIn_exit ?_))
  show (Code.region 10 _ false).wpIn (FR none) 0 Tryz.prog _ a w
  refine wpIn_region_lit (zMS (ρ := Unit) (m:=some ()) (r:=()) (E1:=fun _=>[(40,.fn (.yield l) [] []),(42,.sl 7 false (s.Main.map cOp))]) (S1:=fun _=>zFl s) (l1:=[_,_,_]) (l2:=[_]) hY (fun w0 X X0 σ0 hl=>?_) Z Z hp fun a w hp=>?_)
  ·refine zDm (T:=tab) 3 Z Z ?_
   refine zAE ?_
   exact zHC ⟨Z,Z,trivial⟩ ⟨Z,trivial⟩ Z
  refine zMT (y:=(s.Main,300)) (ys:=[]) (E0:=[]) hY hp Z Z ⟨⟨_,Z,.rfl⟩,⟨_,Z,.rfl⟩,trivial⟩ (hnm _) Z Z Z trivial Z (fun a w hp=>wpListIn_nil ?_) (fun a w hp=>wpListIn_nil ?_)
  ·exact .inl ⟨_,_,hp⟩
  ·exact .inr ⟨_,_,hp⟩
 | succ k =>
  have hd:decide ((i:Int)<(s.Classes.length:Nat))=true:=by simp;omega
  rw [hd] at hp
  refine wpIn_seq (wpIn_cond_true (hp.eval Z) (wpIn_skip ?_))
  obtain ⟨c,hc,hdr⟩:=zQ9 (l:=s.Classes) (i:=i) (by omega)
  rw [hdr] at hp
  refine wpIn_seq (wpIn_block (wpIn_seq (zJW (ρ := Class) (m:=at1 s.Classes i) (r:=c) (E1:=fun c=>zLK s l i c) (S1:=fun c=>zHX c::zFl s) hY (fun w0 X X0 σ0 hl=>?_) (zOW hc) hp fun a w hp=>?_)))
  ·refine zAC ?_
   refine zCN (T:=tab) zAM s.Classes Z Z Z Z Z Z Z fun y4 hy4=>?_
   refine zDm (T:=tab) 1 Z Z ?_
   refine zAs (T:=tab) 4 Z Z Z Z Z Z Z Z Z ?_
   refine zAG (T:=tab) Z Z Z Z Z Z Z Z Z Z Z Z ?_
   refine zAE ?_
   exact zHC ⟨Z,Z,Z,Z,Z,Z,trivial⟩ ⟨Z,Z,trivial⟩ Z
  have hstop:∀{a w} {Q:Exit->Act->World->Prop},PreY Tryz.f68 J none [(25,O true)] [] a w->(∀a w,YEnd Tryz.f68 J .ret a w->Q .ret a w)->(Code.cond (.tmp 25) .ret .skip).wpIn (FR none) 0 Tryz.prog Q a w:=fun hp hq=>wpIn_cond_true (hp.eval rfl) (wpIn_ret (hq _ _ (.inr ⟨_,_,hp⟩)))
  refine wpIn_seq (wpIn_seq (wpIn_region_lit (zMS (ρ := Unit) (m:=some ()) (r:=()) (E1:=fun _=>(14,.fn (.yield l) [] [])::(16,.sl 7 false (c.Peek.map cOp))::zLK s l i c) (S1:=fun _=>zHX c::zFl s) (l1:=[_,_,_]) hY (fun w0 X X0 σ0 hl=>?_) Z Z hp fun a w hp=>?_)))
  ·refine zDm (T:=tab) 3 Z Z ?_
   refine zAE ?_
   exact zHC ⟨Z,Z,Z,Z,Z,Z,Z,Z,trivial⟩ ⟨Z,Z,trivial⟩ Z
  rw [List.flatMap_cons] at hp
  refine zMT (y:=(c.Peek,60)) (E0:=[]) hY hp Z Z ⟨⟨_,Z,.rfl⟩,⟨_,Z,.rfl⟩,trivial⟩ (hnm _) Z Z Z trivial Z (fun a w hp=>?_) (fun a w hp=>?_)
  rotate_left
  ·refine zMS (ρ := Unit) (m:=some ()) (r:=()) (E1:=fun _=>[(25,O true)]) (S1:=fun _=>[]) (l1:=[_,_,_,_,_,_,_,_]) (l2:=[]) hY (fun w0 X X0 σ0 hl=>?_) Z Z hp fun a w hp=>?_
   ·refine zDm (T:=tab) 8 Z Z ?_
    refine zAE ?_
    exact zHC ⟨Z,trivial⟩ trivial Z
   ·exact wpListIn_nil (hstop hp fun a w h=>h)
  refine zMS (ρ := Unit) (m:=some ()) (r:=()) (E1:=fun _=>(20,.fn (.yield l) [] [])::(22,.sl 7 false (c.Make.map cOp))::(19,O false)::zLK s l i c) (S1:=fun _=>zHX c::zFl s) (l1:=[_,_,_,_,_]) hY (fun w0 X X0 σ0 hl=>?_) Z Z hp fun a w hp=>?_
  ·refine zDm (T:=tab) 5 Z Z ?_
   refine zAE ?_
   exact zHC ⟨Z,Z,Z,Z,Z,Z,Z,Z,Z,trivial⟩ ⟨Z,Z,trivial⟩ Z
  refine zMT (y:=(c.Make,60)) (E0:=[(19,O false)]) hY hp Z Z ⟨⟨_,Z,.rfl⟩,⟨_,Z,.rfl⟩,trivial⟩ (hnm _) Z Z Z ⟨Z,trivial⟩ Z (fun a w hp=>?_) (fun a w hp=>?_)
  rotate_left
  ·refine zMS (ρ := Unit) (m:=some ()) (r:=()) (E1:=fun _=>[(25,O true)]) (S1:=fun _=>[]) (l1:=[_,_]) (l2:=[]) hY (fun w0 X X0 σ0 hl=>?_) Z Z hp fun a w hp=>?_
   ·refine zDm (T:=tab) 2 Z Z ?_
    refine zAE ?_
    exact zHC ⟨Z,trivial⟩ trivial Z
   ·exact wpListIn_nil (hstop hp fun a w h=>h)
  refine zMS (ρ := Unit) (m:=some ()) (r:=()) (E1:=fun _=>(25,O false)::zLK s l i c) (S1:=fun _=>zHX c::zFl s) (l1:=[_,_]) (l2:=[]) hY (fun w0 X X0 σ0 hl=>?_) Z Z hp fun a w hp=>?_
  ·refine zDm (T:=tab) 2 Z Z ?_
   refine zAE ?_
   exact zHC ⟨Z,Z,Z,Z,Z,Z,Z,trivial⟩ ⟨Z,Z,trivial⟩ Z
  refine wpListIn_nil ?_
  refine wpIn_cond_false (hp.eval Z) (wpIn_skip ?_)
  refine wpIn_seq (zJW (ρ := Unit) (m:=some ()) (r:=()) (E1:=fun _=>zLL s l i c 0) (S1:=fun _=>zHX c::zFl s) hY (fun w0 X X0 σ0 hl=>?_) Z hp fun a w hp=>?_)
  ·refine zAC ?_
   refine zDm (T:=tab) 2 Z Z ?_
   refine zAm (T:=tab) zAP c.Hooks Z Z Z Z Z Z Z Z ?_
   refine zDm (T:=tab) 1 Z Z ?_
   refine zAE ?_
   exact zHC ⟨Z,Z,Z,Z,Z,Z,Z,Z,Z,trivial⟩ ⟨Z,Z,trivial⟩ Z
  refine wpIn_block (zU6 (n:=c.Hooks.length) (fun k a w=>∃j,j+k=c.Hooks.length/\PreY Tryz.f68 J (some ((c.Hooks.drop j).map (fun h=>(h.Do,(60:Int)))++((s.Classes.drop (i+1)).flatMap zJT++[(s.Main,300)]))) (zLL s l i c j) (zHX c::zFl s) a w) ?_ ⟨0,by omega,?_⟩)
  rotate_left
  ·rw [<- List.append_assoc];exact hp
  rintro k2 a w ⟨j,hj,hp⟩
  refine wpIn_seq (zJW (ρ := Unit) (m:=some ()) (r:=()) (E1:=fun _=>(30,O (decide ((j:Int)<(c.Hooks.length:Nat))))::zLL s l i c j) (S1:=fun _=>zHX c::zFl s) hY (fun w0 X X0 σ0 hl=>?_) Z hp fun a w hp=>?_)
  ·refine zAC ?_
   refine zDm (T:=tab) 1 Z Z ?_
   refine zAE ?_
   exact zHC ⟨Z,Z,Z,Z,Z,Z,Z,Z,Z,Z,trivial⟩ ⟨Z,Z,trivial⟩ Z
  have hlen:=hp.len (t:=27) rfl
  have hlen2:=hp.len (t:=8) rfl
  rw [List.length_map] at hlen hlen2
  cases k2 with
  | zero =>
   have hd:decide ((j:Int)<(c.Hooks.length:Nat))=false:=by simp;omega
   rw [hd] at hp
   have hdr2:c.Hooks.drop j=[]:=by rw [List.drop_eq_nil_iff];omega
   rw [hdr2] at hp
   refine wpIn_seq (wpIn_cond_false (hp.eval Z) (wpIn_exit ?_))
   show (Code.region 9 _ false).wpIn (FR none) 0 Tryz.prog _ a w
   refine zJW (ρ := Int) (m:=bnd (rng .i64 ((i:Int)+1)) fun n=>some n) (r:=((i+1:Nat):Int)) (E1:=fun n=>[(0,.fn (.yield l) [] []),(1,.loc 0 0),(8,.sl 5 false (s.Classes.map zAM)),(9,Y (s.Classes.length:Nat)),(10,Y n)]) (S1:=fun _=>zFl s) hY (fun w0 X X0 σ0 hl=>?_) ?_ hp fun a w hp=>?_
   ·refine zAC ?_
    refine zAI (T:=tab) Z Z Z Z fun i11 hi11=>?_
    refine zDm (T:=tab) 1 Z Z ?_
    refine zAE ?_
    exact zHC ⟨Z,Z,Z,Z,Z,trivial⟩ ⟨Z,trivial⟩ Z
   ·unfold rng
    rw [if_pos (by simp only [Pw.lo,Pw.hi];omega)];rfl
   ·exact ⟨k,Z,i+1,by omega,hp⟩
  | succ k2 =>
   have hd:decide ((j:Int)<(c.Hooks.length:Nat))=true:=by simp;omega
   rw [hd] at hp
   refine wpIn_seq (wpIn_cond_true (hp.eval Z) (wpIn_skip ?_))
   obtain ⟨h,hh,hdr2⟩:=zQ9 (l:=c.Hooks) (i:=j) (by omega)
   rw [hdr2] at hp
   refine wpIn_seq (wpIn_block (wpIn_seq (zJW (ρ := Hook) (m:=at1 c.Hooks j) (r:=h) (E1:=fun h=>(6,.loc 6 0)::zLL s l i c j) (S1:=fun h=>hookB h::zHX c::zFl s) hY (fun w0 X X0 σ0 hl=>?_) (zOW hh) hp fun a w hp=>?_)))
   ·refine zAC ?_
    refine zCN (T:=tab) zAP c.Hooks Z Z Z Z Z Z Z fun y4 hy4=>?_
    refine zDm (T:=tab) 1 Z Z ?_
    refine zAs (T:=tab) 6 Z Z Z Z Z Z Z Z Z ?_
    refine zAG (T:=tab) Z Z Z Z Z Z Z Z Z Z Z Z ?_
    refine zAE ?_
    exact zHC ⟨Z,Z,Z,Z,Z,Z,Z,Z,Z,Z,trivial⟩ ⟨Z,Z,Z,trivial⟩ Z
   refine wpIn_seq (wpIn_region_lit (zMS (ρ := Unit) (m:=some ()) (r:=()) (E1:=fun _=>(33,.fn (.yield l) [] [])::(35,.sl 7 false (h.Do.map cOp))::zLL s l i c j) (S1:=fun _=>zHX c::zFl s) (l1:=[_,_,_]) hY (fun w0 X X0 σ0 hl=>?_) Z Z hp fun a w hp=>?_))
   ·refine zDm (T:=tab) 3 Z Z ?_
    refine zAE ?_
    exact zHC ⟨Z,Z,Z,Z,Z,Z,Z,Z,Z,Z,Z,trivial⟩ ⟨Z,Z,trivial⟩ Z
   rw [List.map_cons,List.cons_append] at hp
   refine zMT (y:=(h.Do,60)) (E0:=[]) hY hp Z Z ⟨⟨_,Z,.rfl⟩,⟨_,Z,.rfl⟩,trivial⟩ (hnm _) Z Z Z trivial Z (fun a w hp=>?_) (fun a w hp=>?_)
   rotate_left
   ·refine zMS (ρ := Unit) (m:=some ()) (r:=()) (E1:=fun _=>[(37,O true)]) (S1:=fun _=>[]) (l1:=[_]) (l2:=[]) hY (fun w0 X X0 σ0 hl=>?_) Z Z hp fun a w hp=>?_
    ·refine zDm (T:=tab) 1 Z Z ?_
     refine zAE ?_
     exact zHC ⟨Z,trivial⟩ trivial Z
    ·exact wpListIn_nil (wpIn_cond_true (hp.eval Z) (wpIn_ret (show YEnd _ J .ret _ _ from .inr ⟨_,_,hp⟩)))
   refine zMS (ρ := Unit) (m:=some ()) (r:=()) (E1:=fun _=>(37,O false)::zLL s l i c j) (S1:=fun _=>zHX c::zFl s) (l1:=[_]) (l2:=[]) hY (fun w0 X X0 σ0 hl=>?_) Z Z hp fun a w hp=>?_
   ·refine zDm (T:=tab) 1 Z Z ?_
    refine zAE ?_
    exact zHC ⟨Z,Z,Z,Z,Z,Z,Z,Z,Z,Z,trivial⟩ ⟨Z,Z,trivial⟩ Z
   refine wpListIn_nil (wpIn_cond_false (hp.eval Z) (wpIn_skip ?_))
   show (Code.region 8 _ false).wpIn (FR none) 0 Tryz.prog _ a w
   refine zJW (ρ := Int) (m:=bnd (rng .i64 ((j:Int)+1)) fun n=>some n) (r:=((j+1:Nat):Int)) (E1:=fun n=>(27,.sl 2 false (c.Hooks.map zAP))::(28,Y (c.Hooks.length:Nat))::(29,Y n)::zLK s l i c) (S1:=fun _=>zHX c::zFl s) hY (fun w0 X X0 σ0 hl=>?_) ?_ hp fun a w hp=>?_
   ·refine zAC ?_
    refine zAI (T:=tab) Z Z Z Z fun i11 hi11=>?_
    refine zDm (T:=tab) 1 Z Z ?_
    refine zAE ?_
    exact zHC ⟨Z,Z,Z,Z,Z,Z,Z,Z,Z,trivial⟩ ⟨Z,Z,trivial⟩ Z
   ·unfold rng
    rw [if_pos (by simp only [Pw.lo,Pw.hi];omega)];rfl
   ·exact ⟨k2,Z,j+1,by omega,hp⟩
theorem zOF (s:Script):FC zAf Tryz.prog 31 [.agg (zE0 s)] [] [] fun p S'=>p=.fn (.func 68) [] [.loc 3006 0]/\S'=[(3006,.box 25 [.sl 5 false (s.Classes.map zAM),.sl 7 false (s.Main.map cOp)])]:=by
 refine zJi (m:=some ()) (r:=()) (args:=[.agg (zE0 s)]) (S:=[]) (N0:=[]) (post:=fun _ p S'=>p=.fn (.func 68) [] [.loc 3006 0]/\S'=[(3006,.box 25 [.sl 5 false (s.Classes.map zAM),.sl 7 false (s.Main.map cOp)])]) Tryz.func31 Z Z Z fun w0 X X0 σ0 _=>?_
 refine zAD ?_
 refine zAC ?_
 refine zDl 3006 Z Z Z Z Z Z Z Z Z Z ?_
 refine zDm (T:=tab) 1 Z Z ?_
 refine zAE ?_
 refine zAA ?_
 refine zAD ?_
 refine zAC ?_
 refine zDm (T:=tab) 2 Z Z ?_
 refine zAE ?_
 refine zAA ?_
 exact zSB (S':=[(3006,.box 25 [.sl 5 false (s.Classes.map zAM),.sl 7 false (s.Main.map cOp)])]) (zCd ⟨Z,trivial⟩ Z) Z Z ⟨Z,Z⟩
end Go.Proofs.YtoboimmgglnjfaaGreatDoor
