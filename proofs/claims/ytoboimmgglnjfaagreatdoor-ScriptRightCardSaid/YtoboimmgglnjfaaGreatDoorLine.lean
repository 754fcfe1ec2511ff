/- Ranges over strings.Lines. No program is named here. -/
import Derived.Test.YtoboimmgglnjfaaGreatDoorBack
import Derived.Lib.Bytealg
namespace Go.Pw
open Go
def zCK:List UInt8->List (List UInt8)
 | []=>[]
 | b::r=>if b=10 then [10]::zCK r else match zCK r with
  | []=>[[b]]
  | l::ls=>(b::l)::ls
def zCC:List UInt8->List UInt8×List UInt8
 | []=>([],[])
 | b::r=>if b=10 then ([10],r) else (b::(zCC r).1,(zCC r).2)
theorem zKS:∀{s:List UInt8},s≠[]->zCK s=(zCC s).1::zCK (zCC s).2
 | [],h=>absurd rfl h
 | b::r,_=>by
  by_cases hb:b=10
  ·simp [zCK,zCC,hb]
  ·cases r with
   | nil=>simp [zCK,zCC,hb]
   | cons c r =>
   have ih:=zKS (s:=c::r) (by simp)
   rw [zCK,if_neg hb,ih]
   simp only [zCC,hb,if_false]
theorem zIz:∀{s:List UInt8},s≠[]->(zCC s).2.length<s.length
 | [],h=>absurd rfl h
 | b::r,_=>by
  by_cases hb:b=10
  ·simp [zCC,hb]
  ·cases r with
   | nil=>simp [zCC,hb]
   | cons c r =>
    have:=zIz (s:=c::r) (by simp)
    simp only [zCC,hb,if_false,List.length_cons] at this ⊢
    omega
theorem zMv:∀(s:List UInt8),-1<=Lib.indexByte s 10/\Lib.indexByte s 10<s.length/\zCC s=if 0<=Lib.indexByte s 10 then (s.take ((Lib.indexByte s 10).toNat+1),s.drop ((Lib.indexByte s 10).toNat+1)) else (s,[])
 | []=>by simp [Lib.indexByte,zCC]
 | b::r=>by
  obtain ⟨h1,h2,h3⟩:=zMv r
  by_cases hb:b=10
  ·subst hb
   simp [Lib.indexByte,zCC]
  ·have hb':(b==10)=false:=by simp [hb]
   simp only [Lib.indexByte,hb',zCC,hb,if_false,h3]
   by_cases he:Lib.indexByte r 10 = -1
   ·simp [he]
    omega
   ·have:(Lib.indexByte r 10 == -1)=false:=by simpa using he
    rw [this]
    simp only [Bool.false_eq_true,if_false,List.length_cons]
    have hp:0<=Lib.indexByte r 10:=by omega
    refine ⟨by omega,by omega,?_⟩
    rw [if_pos hp,if_pos (by omega)]
    have:(Lib.indexByte r 10+1).toNat=(Lib.indexByte r 10).toNat+1:=by omega
    simp [this]
def cutM (s:List UInt8):Option (List UInt8×List UInt8) :=
 bnd (some (Lib.indexByte s 10)) fun r2=>cnd (decide (r2>=0)) (bnd (rng .i64 (r2+1)) fun i3=>bnd (zC3 s 0 i3) fun s4=>bnd (rng .i64 (r2+1)) fun i5=>bnd (zC3 s i5 ((s.length:Nat):Int)) fun s6=>some (s4,s6)) (some (s,[]))
theorem zVO {s:List UInt8} (h:s.length<=9223372036854775807):cutM s=some (zCC s):=by
 obtain ⟨h1,h2,h3⟩:=zMv s
 rw [h3]
 show cnd (decide (Lib.indexByte s 10>=0)) _ _=_
 by_cases hp:0<=Lib.indexByte s 10
 ·have hr:rng .i64 (Lib.indexByte s 10+1)=some (Lib.indexByte s 10+1):=by unfold rng;rw [if_pos (by simp only [lo,hi];omega)]
  have e1:zC3 s 0 (Lib.indexByte s 10+1)=some (s.take ((Lib.indexByte s 10).toNat+1)):=by
   unfold zC3
   rw [if_pos (by omega)]
   have:(Lib.indexByte s 10+1).toNat=(Lib.indexByte s 10).toNat+1:=by omega
   simp [this]
  have e2:zC3 s (Lib.indexByte s 10+1) ((s.length:Nat):Int)=some (s.drop ((Lib.indexByte s 10).toNat+1)):=by
   unfold zC3
   rw [if_pos (by omega)]
   have:(Lib.indexByte s 10+1).toNat=(Lib.indexByte s 10).toNat+1:=by omega
   rw [this,List.take_of_length_le (by simp)]
  simp [hp,cnd,hr,bnd,e1,e2]
 ·simp [hp,cnd]
def line0 (tS tI tB:TypeId):List Oper :=
 [opB 5 (.load tS (.tmp 1)) tS "iter.go:20" #[], opB 6 (.call { callee := .builtin .len, args := #[.tmp 5], argTypes := #[tS] }) tI "iter.go:20" #[ed 0], opB 7 (.binOp .gtr tI (.tmp 6) (.const (.int .i64 0)) tI) tB "iter.go:20" #[ed 1]]
def line6 (tS tB tF:TypeId):List Oper :=
 [opB 21 (.move (.tmp 0)) tF "iter.go:27" #[], opB 22 (.move (.tmp 3)) tS "iter.go:27" #[], opB 23 (.call { callee := .value (.tmp 21), args := #[.tmp 22], argTypes := #[tS] }) tB "iter.go:27" #[ed 0, ed 1], opB 24 (.unOp .not tB (.tmp 23)) tB "iter.go:27" #[ed 2]]
def zKR (r1 mid:Code) (tS tI tB tF:TypeId):Code :=
 .block 0 (.loop (.seq (.seq (.region 0 (line0 tS tI tB).toArray false) (.cond (.tmp 7) .skip (.exit 0)))
  (.block 1 (.seq r1 (.seq mid (.seq (.region 6 (line6 tS tB tF).toArray false) (.cond (.tmp 24) .ret .skip)))))))
abbrev zJa (tS:TypeId) (s:List UInt8):Store:=[(0,.box tS [.v (.string ⟨⟨s⟩⟩)])]
abbrev zMy (l:Nat):Env:=[(1,.loc 0 0),(0,.fn (.yield l) [] [])]
abbrev zP6 (l:Nat) (s:List UInt8):Env:=(3,.v (.string ⟨⟨s⟩⟩))::zMy l
def zOT (W:World) (bB:Nat) (tS:TypeId) (s:List UInt8):Prop:=∃fr:Nat×Nat,W.heap[bB]? = some (.cells ⟨[.string ⟨⟨s⟩⟩]⟩ tS fr)/\(fr.1<fr.2->1<=fr.1)
def LineJ (L:World->Prop) (P:Program) (tS:TypeId) (l bB:Nat) (J:List UInt8->World->Prop) (JX:World->Prop):Prop :=
 ∀s W,J s W->zOT W bB tS s/\s.length<=9223372036854775807/\Lay L (fun b=>b≠bB) W /\
  ∀W1,s≠[]->Fr W (fun b=>b=bB) W1->zOT W1 bB tS (zCC s).2->YieldAt Fence.wide 0 P l #[.string ⟨⟨(zCC s).1⟩⟩] W1 fun e W'=>(e=.returned (.bool true)/\J (zCC s).2 W')\/(e=.returned (.bool false)/\JX W')
theorem zRt {α : Type} {H:Ctx α} {y : α} {E1 : α -> Env} {S1 : α -> Store} {JR : α -> Act->World->Prop} {E':Env} {S':Store} (hE:SubL (E1 y) E') (hS:zFR (S1 y) S') (hn:zCV ((S1 y).map (·.1))=true):PN H (some y) [.loopK (fun y a w=>Pre H (E1 y) (S1 y) a w) JR] E' S':=by
 intro r hr a w hp
 cases hr
 obtain ⟨σ,φ,hp⟩:=zFv (zCd hS hn) hp
 exact ⟨σ,φ,{ hp with env:=fun t p ht=>hp.env t p (zG6 hE t p ht) }⟩
section lines
variable {P:Program} {T:Tab P} {L:World->Prop} {g:FuncId} {fn:Func} {r1 mid:Code} {tS tI tB tF:TypeId}
theorem two {E:List (Nat×Value)} {t:Nat} {v x y:Value} (h:lku [(0,x),(1,y)] t=some v) (h0:lku E 0=some x:=by rfl) (h1:lku E 1=some y:=by rfl):lku E t=some v:=by
 by_cases e0:t=0
 ·subst e0;exact h0.trans h
 by_cases e1:t=1
 ·subst e1;exact h1.trans h
 simp only [lku,zA5 (Ne.symm e0),zA5 (Ne.symm e1),cond_false] at h
 cases h
theorem zTb (hf:P.funcs[g]? = some fn) (hb:fn.body=some (zKR r1 mid tS tI tB tF)) (hn:fn.ntmps=25) (hres:fn.results = #[]) (hty:lku T.tys tS=some (false,1)) (hbs:lku T.bases tS=some .string)
  (hcut:∀(s:List UInt8) (l:Nat) w0 X X0 σ0 hl z,PW (⟨P,fn,w0,X,X0,σ0,[0],fun _ _ _=>True,z,L,hl,none⟩:Ctx (List UInt8×List UInt8)) (cutM s) r1 [.seq mid,.loopK (fun y a w=>Pre (⟨P,fn,w0,X,X0,σ0,[0],fun _ _ _=>True,z,L,hl,none⟩:Ctx (List UInt8×List UInt8)) (zP6 l y.1) (zJa tS y.2) a w) (fun _ _ _=>False)] (zMy l) (zJa tS s))
  {l bB:Nat} {J:List UInt8->World->Prop} {JX:World->Prop} (hJ:LineJ L P tS l bB J JX) {s0:List UInt8} {w:World} (h0:J s0 w) :
  CallsIn Fence.wide 1 P g #[.func (.yield l) #[] #[],.pointer (some ⟨bB,0,none⟩)] w fun e W'=>(∃v,e=.returned v)/\(J [] W'\/JX W'):=by
 refine callsIn_of_wp (F:=FR none) hf hb trivial ?_
 have ha:Has 25 [(0,.func (.yield l) #[] #[]),(1,.pointer (some ⟨bB,0,none⟩))] { tmps := #[.func (.yield l) #[] #[],.pointer (some ⟨bB,0,none⟩)]++Array.replicate (fn.ntmps - 2) undef,defers:=[] }:=by
  refine ⟨by simp [hn],rfl,fun t v h=>?_⟩
  have hz:t=0\/t=1:=by
   by_cases e0:t=0
   ·exact .inl e0
   ·by_cases e1:t=1
    ·exact .inr e1
    ·simp only [lku,zA5 (Ne.symm e0),zA5 (Ne.symm e1),cond_false] at h;cases h
  rcases hz with rfl | rfl
  ·cases h;rw [Array.getElem?_append_left (by simp)];rfl
  ·cases h;rw [Array.getElem?_append_left (by simp)];rfl
 generalize ({ tmps := #[.func (.yield l) #[] #[],.pointer (some ⟨bB,0,none⟩)]++Array.replicate (fn.ntmps - #[Value.func (.yield l) #[] #[],.pointer (some ⟨bB,0,none⟩)].size) undef,defers:=[] }:Act)=a at *
 refine zKn (n:=0) (wpIn_block ?_)
 refine wpIn_loop (fun a w=>∃s,Has 25 [(0,.func (.yield l) #[] #[]),(1,.pointer (some ⟨bB,0,none⟩))] a/\J s w) (fun _ w=>(match w.cell? ⟨bB,0,none⟩ with | some (.string s)=>s.size | _=>0)) ⟨s0,ha,h0⟩ ?_
 rintro a w ⟨s,ha,hj⟩
 obtain ⟨⟨fr,hcell,hfr⟩,hmax,hlay,hyield⟩:=hJ s w hj
 have hm:(match w.cell? ⟨bB,0,none⟩ with | some (.string s)=>s.size | _=>0)=s.length:=by rw [zCY hcell];rfl
 rw [hm]
 have hld:(Instr.loadAt tS (.pointer (some ⟨bB,0,none⟩))).run P w=.ok (.string ⟨⟨s⟩⟩) w:=by
  have q1:(isAgg tS).run P w=.ok false w:=(zGr (w:=w) (T.htys _ (zA6 hty))).1
  have:w.cell? ⟨bB,0,none⟩=some (.string ⟨⟨s⟩⟩):=zCY hcell
  simp [Instr.loadAt,Instr.sureAddr,loadVar,q1,this]
 refine wpIn_seq (wpIn_seq (wpIn_region_lit ?_))
 refine zKY _ ha (run_load (ha.eval (t:=1) rfl) hld) (by omega) rfl fun a1 h1=>?_
 obtain ⟨v2, r2, d2⟩ := zTI (P := P) (T := T) (w := w) (D := fun _ => False) (o := opB 6 (.call { callee := .builtin .len, args := #[.tmp 5], argTypes := #[tS] }) tI "iter.go:20" #[ed 0]) (p := .v (.int .i64 (s.length : Nat))) (fun _ h => h.elim)
  (h1.inv (σ := fun _=>undef) (w:=w) (D:=fun _=>False) (t:=5) (p:=.v (.string ⟨⟨s⟩⟩)) rfl (.d (.v rfl))) (by simp [ev1,opB,ev,lk,hbs,ByteArray.size])
 obtain ⟨rfl,_⟩:=d2.flat_inv
 refine zKY _ h1 r2 (by omega) rfl fun a2 h2=>?_
 have r3 : (execOp a2.eval (opB 7 (.binOp .gtr tI (.tmp 6) (.const (.int .i64 0)) tI) tB "iter.go:20" #[ed 1])).run P w = .ok (.value (.bool (decide (0 < s.length)))) w := by
  have q1:=h2.eval (t:=6) rfl
  have q2:a2.eval (.const (.int .i64 0))=.int .i64 0:=rfl
  simp [execOp,opB,q1,q2,binOp,Op.intCmp,zEE]
 refine zKY _ h2 r3 (by omega) rfl fun a3 h3=>?_
 refine wpListIn_nil ?_
 by_cases hs:s=[]
 ·subst hs
  refine wpIn_cond_false (h3.eval (t:=7) rfl) (wpIn_exit ?_)
  exact ⟨h3.defers,_,results_none hres _ _ _,⟨_,rfl⟩,.inl hj⟩
 ·have hpos:0<s.length:=List.length_pos_iff.2 hs
  refine wpIn_cond_true (by rw [h3.eval (t:=7) rfl];simp [hpos]) (wpIn_skip ?_)
  refine wpIn_block (wpIn_seq ?_)
  have hlt:bB<w.heap.size:=(Array.getElem?_eq_some_iff.1 hcell).1
  have hfoot:∀b,foot (fun _ b=>b=bB) (zJa tS s) b↔b=bB:=fun b=>⟨fun ⟨_,_,_,h⟩=>h,fun h=>⟨0,_,List.mem_singleton.2 rfl,h⟩⟩
  have hfe:foot (fun _ b=>b=bB) (zJa tS s)=fun b=>b=bB:=funext fun b=>propext (hfoot b)
  have hl:Lay L (fun b=>¬b=bB) w:=hlay
  let G3:Ctx (List UInt8×List UInt8):=⟨P,fn,w,fun b=>b<w.heap.size/\b≠bB,fun b=>b=bB,fun _=>.pointer (some ⟨bB,0,none⟩),[0],fun _ _ _=>True,0,L,hl,none⟩
  have hp3:Pre' G3 (zMy l) (zJa tS s) a3 w (fun _=>.pointer (some ⟨bB,0,none⟩)) (fun _ b=>b=bB):=by
   refine ⟨by rw [h3.defers];exact DOk.nil _ _,by rw [h3.size];exact hn.symm,fun t p h=>?_,⟨by simp,fun b h=>h.1,fun b hb=>?_,fun n m k k' h1 h2 hne=>?_,fun n k hm=>?_⟩,Fr.refl _ _,fun _ _=>rfl,fun b hb _=>(hfoot b).1 hb⟩
   ·simp only [lk] at h
    by_cases e1:(1:Nat)=t
    ·subst e1
     simp at h;subst h
     exact ⟨_,h3.has 1 _ rfl,.loc rfl⟩
    ·simp only [zA5 e1,cond_false] at h
     by_cases e0:(0:Nat)=t
     ·subst e0
      simp at h;subst h
      exact ⟨_,h3.has 0 _ rfl,.fn rfl rfl (fun i c u h=>by simp at h) (fun i c u h=>by simp at h)⟩
     ·simp [zA5 e0] at h
   ·rw [(hfoot b).1 hb];exact ⟨hlt,fun h=>h.2 rfl⟩
   ·simp at h1 h2;exact absurd (h1.1.trans h2.1.symm) hne
   ·simp at hm
    obtain ⟨rfl,rfl⟩:=hm
    refine .inl ⟨bB,[.string ⟨⟨s⟩⟩],rfl,fun _=>Iff.rfl,rfl,⟨fr,hcell,hfr⟩,fun i c u hc hu=>?_⟩
    cases i with
    | zero=>simp at hc hu;subst hc hu;exact .d (.v rfl)
    | succ i=>simp at hc
  refine wpIn_mono (hcut s l w _ _ _ hl 0 (zCC s) (zVO hmax) a3 w ⟨_,_,hp3⟩) fun e a4 w4 hq=>?_
  have bad:∀e a w,e≠.normal->¬kwp G3 (zCC s) [.loopK (fun y a w=>Pre G3 (zP6 l y.1) (zJa tS y.2) a w) (fun _ _ _=>False)] e a w:=fun e a w he h=>by
   cases e<;>first | exact he rfl | exact h
  have bad':∀e a w,e≠.normal->¬kwp G3 (zCC s) [.seq mid,.loopK (fun y a w=>Pre G3 (zP6 l y.1) (zJa tS y.2) a w) (fun _ _ _=>False)] e a w:=fun e a w he h=>by
   cases e<;>first | exact he rfl | exact h
  cases e with
  | normal =>
   refine wpIn_seq (wpIn_mono hq fun e a5 w5 hq=>?_)
   cases e with
   | normal =>
    obtain ⟨σ5,φ5,hp5⟩:=hq
    have hσ0 : σ5 0=.pointer (some ⟨bB,0,none⟩):=hp5.agree 0 (by simp)
    have hat:zOT w5 bB tS (zCC s).2:=by
     rcases hp5.inv.ok 0 _ (List.mem_singleton.2 rfl) with hbk | hw
     rotate_left
     ·have:=hw.noP;rw [hσ0] at this;cases this
     obtain ⟨b,us,g1,_,g3,⟨⟨fr5,g4,g4'⟩,g5⟩⟩:=hbk
     rw [hσ0] at g1
     simp at g1
     subst g1
     obtain ⟨u,rfl⟩:∃u,us=[u]:=by
      match us,g3 with
      | [u],_=>exact ⟨u,rfl⟩
     obtain ⟨rfl,_⟩:=(g5 0 _ _ rfl rfl).flat_inv
     exact ⟨fr5,g4,g4'⟩
    have hv:∀t p,lk (zP6 l (zCC s).1) t=some p->∃u,a5.tmps[t]? = some u/\R σ5 w5 (Dof G3.X φ5 w5 (zJa tS (zCC s).2)) p u:=hp5.env
    have h5:Has 25 [(0,.func (.yield l) #[] #[]),(1,.pointer (some ⟨bB,0,none⟩)),(3,.string ⟨⟨(zCC s).1⟩⟩)] a5:=by
     refine ⟨by rw [hp5.size];exact hn,?_,fun t v h=>?_⟩
     ·exact DOk.none hp5.defers
     ·simp only [lku] at h
      by_cases e0:(0:Nat)=t
      ·subst e0
       simp at h;subst h
       obtain ⟨u,hu,hr⟩:=hv 0 _ rfl
       obtain ⟨us,vs,rfl,⟨q1,_⟩,⟨q2,_⟩⟩:=hr.fn_inv
       have:=List.eq_nil_of_length_eq_zero q1.symm
       have:=List.eq_nil_of_length_eq_zero q2.symm
       subst us vs
       exact hu
      ·simp only [zA5 e0,cond_false] at h
       by_cases e1:(1:Nat)=t
       ·subst e1
        simp at h;subst h
        obtain ⟨u,hu,hr⟩:=hv 1 _ rfl
        rw [hu]
        cases hr with
        | d hd=>cases hd
        | loc hs=>rw [hσ0] at hs;simp [hdrP] at hs;subst hs;rfl
       ·simp only [zA5 e1,cond_false] at h
        by_cases e3:(3:Nat)=t
        ·subst e3
         simp at h;subst h
         obtain ⟨u,hu,hr⟩:=hv 3 _ rfl
         rw [hu,hr.flat_inv.1]
        ·simp [zA5 e3] at h
    obtain ⟨fn',tm',as',bd',hyr,hround⟩:=hyield w5 hs hp5.fr hat
    refine wpIn_seq (wpIn_region_lit ?_)
    refine zKY _ h5 (zPe (h5.eval (t:=0) rfl)) (by omega) rfl fun a6 h6=>?_
    refine zKY _ h6 (zPe (h6.eval (t:=3) rfl)) (by omega) rfl fun a7 h7=>?_
    refine wpListIn_plain rfl fun K hK=>⟨fun _ _=>trivial,?_⟩
    rw [Oper.semAt_eq _ _ _ (zHm rfl)]
    have hcall : (execOp a7.eval (opB 23 (.call { callee := .value (.tmp 21), args := #[.tmp 22], argTypes := #[tS] }) tB "iter.go:27" #[ed 0, ed 1])).run P w5 = .ok (.round l fn' tm' as' bd') w5 := by
     have q1:=h7.eval (t:=21) rfl
     have q2:=h7.eval (t:=22) rfl
     simp [execOp,opB,resolve,q1,q2,Deferred.ofValue,invoke,hyr]
    rw [hcall,Oper.uponIn_round]
    refine ⟨fun h=>(by cases h),RoundIn.mono hround fun e W' he=>?_⟩
    rcases he with ⟨rfl,hj'⟩ | ⟨rfl,hx'⟩
    ·refine hK _ _ ?_
     have h9:=h7.put (d:=23) (v:=.bool true) (by omega)
     refine zKY _ h9 (zSf (h9.eval (t:=23) rfl)) (by omega) rfl fun a10 h10=>?_
     refine wpListIn_nil ?_
     refine wpIn_cond_false (h10.eval (t:=24) rfl) (wpIn_skip ?_)
     refine ⟨⟨_,⟨h10.size,h10.defers,fun t v htv=>h10.has t v (two htv)⟩,hj'⟩,?_⟩
     obtain ⟨⟨fr',hc',_⟩,_⟩:=hJ _ _ hj'
     have:(match W'.cell? ⟨bB,0,none⟩ with | some (.string s)=>s.size | _=>0)=(zCC s).2.length:=by rw [zCY hc'];rfl
     rw [this]
     exact zIz hs
    ·refine hK _ _ ?_
     have h9:=h7.put (d:=23) (v:=.bool false) (by omega)
     refine zKY _ h9 (zSf (h9.eval (t:=23) rfl)) (by omega) rfl fun a10 h10=>?_
     refine wpListIn_nil ?_
     refine wpIn_cond_true (by rw [h10.eval (t:=24) rfl];rfl) (wpIn_ret ?_)
     exact ⟨h10.defers,_,results_none hres _ _ _,⟨_,rfl⟩,.inr hx'⟩
   | _=>exact absurd hq (bad _ _ _ (by simp))
  | _=>exact absurd hq (bad' _ _ _ (by simp))
end lines
section stmt
variable {ρ : Type} {G:Ctx ρ}
def fits (s:List UInt8):Option Unit:=if s.length<=9223372036854775807 then some () else none
theorem zVw {s:List UInt8} {m:Unit->Option ρ} {c:Code} {K:List (Kont ρ)} {E:Env} {S:Store} (h:s.length<=9223372036854775807->PW G (m ()) c K E S):PW G (bnd (fits s) m) c K E S:=by
 by_cases hs:s.length<=9223372036854775807
 ·have:bnd (fits s) m=m ():=by simp [fits,hs,bnd]
  rw [this];exact h hs
 ·have:bnd (fits s) m=none:=by simp [fits,hs,bnd]
  rw [this];intro r hr;cases hr
theorem zVu {m m':Option ρ} {c:Code} {K:List (Kont ρ)} {E:Env} {S:Store} (h:m=m') (k:PW G m' c K E S):PW G m c K E S:=by rw [h];exact k
theorem zJA {H:Ctx ρ} {r0 : ρ} {K:List (Kont ρ)} {E:Env} {S:Store} {SR : ρ -> Store} (hK:popR K=some fun r a w=>Pre H [] (SR r) a w) (hS:zFR (SR r0) S) (hn:zCV ((SR r0).map (·.1))=true):PW H (some r0) .ret K E S:=by
 intro r hr a w hp
 cases hr
 refine wpIn_ret (zJo hK ?_)
 obtain ⟨σ,φ,hp⟩:=zFv (zCd hS hn) hp
 exact ⟨σ,φ,{ hp with env:=fun t p ht=>by simp [lk] at ht }⟩
theorem zG2 {α : Type} {H:Ctx ρ} {M : α -> Option ρ} {Sf : α -> Store} {JR : ρ -> Act->World->Prop} {K:List (Kont ρ)} {E:Env} {S:Store} (x : α) (hS:zFR (Sf x) S) (hn:zCV ((Sf x).map (·.1))=true):PN H (M x) (.loopK (Head H M (fun _=>[]) Sf) JR::K) E S:=by
 intro r hr a w hp
 obtain ⟨σ,φ,hp⟩:=zFv (zCd hS hn) hp
 exact ⟨x,hr,σ,φ,{ hp with env:=fun t p ht=>by simp [lk] at ht }⟩
theorem Pre'.barred {E:Env} {S:Store} {a:Act} {w W1:World} {σ : Nat->Value} {φ : Nat->Nat->Prop} {bB:Nat} (hp:Pre' G E S a w σ φ) (hX:G.X bB) (hX0:bB<G.w0.heap.size->G.X0 bB) (hm:∀o,w.heap[bB]? = some o->zIl (some o)=true) (hf:Fr w (fun b=>b=bB) W1) :
  Pre' G E S a W1 σ φ /\ ∀b,Dof G.X φ w S b->Dof G.X φ W1 S b/\W1.heap[b]? = w.heap[b]? := by
 have hs:=hf.size
 have hD:∀b,Dof G.X φ w S b->Dof G.X φ W1 S b/\W1.heap[b]? = w.heap[b]? := fun b ⟨h1,h2,h3⟩=>⟨⟨by omega,h2,h3⟩,hf.block b h1 fun e=>h2 (e▸hX)⟩
 have hF:∀b,foot φ S b->W1.heap[b]? = w.heap[b]? := fun b h=>hf.block b (hp.inv.lt b h).1 fun e=>(hp.inv.lt b h).2 (e▸hX)
 refine ⟨⟨hp.defers.keep fun b hb hpl=>hf.block b hb fun e=>?_,hp.size,fun t p ht=>let ⟨u,hu,hr⟩:=hp.env t p ht;⟨u,hu,hr.mono hD⟩,?_,?_,hp.agree,hp.new⟩,hD⟩
 ·subst e
  have:w.heap[b]? = some w.heap[b]:=Array.getElem?_eq_getElem hb
  rw [this] at hpl
  rw [hm _ this] at hpl;cases hpl
 ·refine ⟨hp.inv.nodup,fun b hb=>by have:=hp.inv.xlt b hb;omega,fun b h=>⟨by have:=(hp.inv.lt b h).1;omega,(hp.inv.lt b h).2⟩,hp.inv.disj,fun n k hm=>?_⟩
  exact (hp.inv.ok n k hm).next hD (fun b hb=>hF b ⟨n,k,hm,hb⟩) fun _ _ _ _ _ _ _ _=>rfl
 ·refine ⟨hf.os.trans hp.fr.os,hf.tape.trans hp.fr.tape,hf.output.trans hp.fr.output,by have:=hp.fr.size;omega,fun b hb hx=>?_⟩
  have:=hp.fr.size
  rw [hf.block b (by omega) fun e=>hx (e▸hX0 (e▸hb))]
  exact hp.fr.block b hb hx
theorem zTq {T:Tab G.P} {β : Type} {g:FuncId} {fn:Func} {r1 mid cb:Code} {tS tI tB tF:TypeId} {E E0:Env} {S:Store} {K:List (Kont ρ)} {s:List UInt8}
  (M:List (List UInt8) -> β -> Option ρ) (Sf : β -> Store) (SR : ρ -> Store) (N1:List Nat) (E1:List UInt8->Env) {gop:Operand} {t1:Tmp} {ida n:Nat} {opsA:List Oper} {x0 : β} (hs:s.length<=9223372036854775807)
  (hf:G.P.funcs[g]? = some fn) (hb:fn.body=some (zKR r1 mid tS tI tB tF)) (hn:fn.ntmps=25) (hres:fn.results = #[]) (hcl:zAJ G.P g=true) (hty:lku T.tys tS=some (false,1)) (hbs:lku T.bases tS=some .string)
  (hcut:∀(s:List UInt8) (l:Nat) w0 X X0 σ0 hl z,PW (⟨G.P,fn,w0,X,X0,σ0,[0],fun _ _ _=>True,z,G.L,hl,none⟩:Ctx (List UInt8×List UInt8)) (cutM s) r1 [.seq mid,.loopK (fun y a w=>Pre (⟨G.P,fn,w0,X,X0,σ0,[0],fun _ _ _=>True,z,G.L,hl,none⟩:Ctx (List UInt8×List UInt8)) (zP6 l y.1) (zJa tS y.2) a w) (fun _ _ _=>False)] (zMy l) (zJa tS s))
  (hg:ev E gop=some (.fn (.func g) [] [.loc n 0])) (hbx:lkS S n=some (.box tS [.v (.string ⟨⟨s⟩⟩)]))
  (hE0:SubL E0 E) (hN:zN5 N1 E0=true) (hN0:subN G.N0 N1=true) (hS0:zFR (Sf x0) S) (hSn:zCV ((Sf x0).map (·.1))=true) (hnS:(Sf x0).any (fun x=>Nat.beq n x.1)=false)
  (hlt1:Nat.blt t1 G.fn.ntmps=true) (hdA:opsA.all (fun o=>zE4 o.op)=true)
  (hA:∀(y:List UInt8) (x : β),∀w0 X X0 σ0 hl ro,PO (⟨G.P,G.fn,w0,X,X0,σ0,N1,fun _ _ _=>True,G.dz,G.L,hl,ro⟩:Ctx Unit) (some ()) opsA.toArray opsA [.iter fun _ a w=>Pre (⟨G.P,G.fn,w0,X,X0,σ0,N1,fun _ _ _=>True,G.dz,G.L,hl,ro⟩:Ctx Unit) (E1 y) (Sf x) a w]
   ((t1,.v (.string ⟨⟨y⟩⟩))::E0) (Sf x))
  (hB:∀(y:List UInt8) (ys:List (List UInt8)) (x : β),∀w0 X X0 σ0 hl ro,PW (⟨G.P,G.fn,w0,X,X0,σ0,N1,fun _ _ _=>True,G.dz,G.L,hl,ro⟩:Ctx ρ) (M (y::ys) x) cb [.loopK (Head (⟨G.P,G.fn,w0,X,X0,σ0,N1,fun _ _ _=>True,G.dz,G.L,hl,ro⟩:Ctx ρ) (M ys) (fun _=>[]) Sf) (fun r a w=>Pre (⟨G.P,G.fn,w0,X,X0,σ0,N1,fun _ _ _=>True,G.dz,G.L,hl,ro⟩:Ctx ρ) [] (SR r) a w)] (E1 y) (Sf x))
  (hend:∀x,PN G (M [] x) K E0 (Sf x)) (hret:∀r,PW G (some r) .ret K E0 (SR r)) (hz:G.dz=G.w0.heap.size+1:=by rfl) (hro:G.ro=none:=by rfl) :
  PW G (M (zCK s) x0) (.rangeFunc gop #[t1] (.region ida opsA.toArray false) cb) K E S:=by
 intro r hr a w ⟨σ,φ,hp⟩
 obtain ⟨bB,hbB,hgv⟩:=zUn (zBI hp.env hg)
 have hSS:SubS (Sf x0) S:=zCd hS0 hSn
 rcases hp.inv.ok n _ (zBN hbx) with hbk | hw
 rotate_left
 ·rw [hw.noP] at hbB;cases hbB
 obtain ⟨b',us,hσn,hφn,hul,⟨fr0,hcell,hfr0⟩,hcr⟩:=hbk
 have:b'=bB:=by rw [zIe hσn] at hbB;simpa using hbB
 subst this
 obtain ⟨u0,rfl⟩:∃u0,us=[u0]:=by
  match us,hul with
  | [u],_=>exact ⟨u,rfl⟩
 obtain ⟨rfl,_⟩:=(hcr 0 _ _ rfl rfl).flat_inv
 let X':Nat->Prop:=fun b=>G.X b\/(foot φ S b/\¬foot φ (Sf x0) b)
 have hD0:∀b,Dof G.X φ w S b->Dof X' φ w (Sf x0) b:=fun b ⟨h1,h2,h3⟩=>⟨h1,fun h=>by
  rcases h with h | ⟨⟨m,k,hm,hf⟩,_⟩
  ·exact h2 h
  ·exact h3 m k hm hf,fun m k h=>h3 m k (hSS.1 _ h)⟩
 let Gx:Ctx ρ := { G with X:=X' }
 have hpx:Pre' Gx E0 (Sf x0) a w σ φ := by
  refine ⟨hp.defers,hp.size,fun t p h=>let ⟨u,hu,hr⟩:=hp.env t p (zG6 hE0 t p h);⟨u,hu,hr.mono fun b hb=>⟨hD0 b hb,rfl⟩⟩,?_,hp.fr,hp.agree,fun b hf=>hp.new b (let ⟨m,k,h1,h2⟩:=hf;⟨m,k,hSS.1 _ h1,h2⟩)⟩
  refine ⟨hSS.2,fun b hb=>?_,fun b hf=>?_,fun m1 m2 k l h1 h2=>hp.inv.disj m1 m2 k l (hSS.1 _ h1) (hSS.1 _ h2),fun m k hm=>(hp.inv.ok m k (hSS.1 _ hm)).mono hD0⟩
  ·rcases hb with hb | ⟨h,_⟩
   ·exact hp.inv.xlt b hb
   ·exact (hp.inv.lt b h).1
  ·have hf':foot φ S b:=let ⟨m,k,h1,h2⟩:=hf;⟨m,k,hSS.1 _ h1,h2⟩
   exact ⟨(hp.inv.lt b hf').1,fun h=>by
    rcases h with h | ⟨_,h⟩
    ·exact (hp.inv.lt b hf').2 h
    ·exact h hf⟩
 have hfB:foot φ S b':=⟨n,_,zBN hbx,(hφn b').2 rfl⟩
 have hXB:X' b':=.inr ⟨hfB,fun ⟨m,k,hm,hf⟩=>by
  have hne:n≠m:=fun e=>by
   have:(Sf x0).any (fun x=>Nat.beq n x.1)=true:=List.any_eq_true.2 ⟨(m,k),hm,by simp [e]⟩
   rw [hnS] at this;cases this
  exact hp.inv.disj n m _ k (zBN hbx) (hSS.1 _ hm) hne b' ((hφn b').2 rfl) hf⟩
 have hX0B:b'<G.w0.heap.size->G.X0 b':=hp.new b' hfB
 have hsz:G.w0.heap.size<=w.heap.size:=hp.fr.size
 rw [hro]
 refine zKn (n:=1) (wpIn_rangeFunc ?_)
 intro fnn _
 obtain ⟨rec,hrec⟩:∃rec:LoopState->Option Code->Loop,rec=fun st pe=>{ state:=st,pending:=pe,fn:=fnn,tmps:=a.tmps,params := #[t1],assign:=.region ida opsA.toArray false,body:=cb,defers:=w.heap.size }:=⟨_,rfl⟩
 obtain ⟨w1,hw1⟩:∃w1,(w.alloc (.deferred (some []))).alloc (.loop (rec .ready none))=w1:=⟨_,rfl⟩
 have hL1:w1.heap[w.heap.size+1]? = some (.loop (rec .ready none)):=by
  rw [<- hw1];have:=World.alloc_heap_new (w.alloc (.deferred (some []))) (.loop (rec .ready none));rwa [World.size_alloc] at this
 have hold1:∀b,b<w.heap.size->w1.heap[b]? = w.heap[b]? := fun b hb=>by
  rw [<- hw1]
  exact (zGj (by simp;omega)).trans (zGj hb)
 have hK1:w1.heap[w.heap.size]? = some (.deferred (some [])):=by
  rw [<- hw1];exact (zGj (by simp)).trans (World.alloc_heap_new w _)
 have hsz1:w1.heap.size=w.heap.size+2:=by rw [<- hw1];simp
 have turn1:Turn G.w0.heap.size [] w w1:=⟨by rw [<- hw1];rfl,by rw [<- hw1];rfl,by rw [<- hw1];rfl,by omega,fun b hb _=>hold1 b hb,fun b hb=>by simp at hb⟩
 have hlt':b'<w.heap.size:=(Array.getElem?_eq_some_iff.1 hcell).1
 -- what is so between two rounds,and behind a return
 let J:List UInt8->World->Prop:=fun z W=>∃x σ' φ',M (zCK z) x=some r/\Pre' Gx E0 (Sf x) a W σ' φ'/\W.heap[w.heap.size+1]? = some (.loop (rec .ready none))/\W.heap[w.heap.size]? = some (.deferred (some [])) /\
  zOT W b' tS z/\z.length<=9223372036854775807
 let JX:World->Prop:=fun W=>∃σ' φ',Pre' Gx E0 (SR r) a W σ' φ'/\W.heap[w.heap.size+1]? = some (.loop (rec .done (some .ret)))/\W.heap[w.heap.size]? = some (.deferred (some []))
 have hplain:∀{W:World} {σ' φ' S'} {b:Nat},Inv X' σ' φ' W S'->zIl W.heap[b]? = false->¬foot φ' S' b:=fun hi hpl hf=>by
  have:=hi.plain hf;unfold zIl at hpl;rw [hpl] at this;cases this
 have hNN:∀m∈G.N0,m∈N1:=fun m hm=>zHZ hN0 m hm
 have hEN:∀t p,lk E0 t=some p->∀m∈names p,m∈N1:=fun t p h=>zLC hN h
 -- one round
 have hline:LineJ G.L G.P tS (w.heap.size+1) b' J JX:=by
  rintro z W ⟨x,σ',φ',hM,hpW0,hLW0,hKW0,⟨frB,hBW0,hfB0⟩,hzl⟩
  refine ⟨⟨frB,hBW0,hfB0⟩,hzl,fun w' hw=>G.lay w' fun b hb hl=>?_,fun W1 hz0 hfW hBW1=>?_⟩
  ·have hne:b≠b':=fun e=>hb (e▸hX0B (e▸hl))
   exact (hw b hne (Nat.lt_of_lt_of_le hl hpW0.fr.size)).trans (hpW0.fr.block b hl hb)
  obtain ⟨hpW,dW⟩:=Pre'.barred (G:=Gx) hpW0 hXB hX0B (fun o ho=>by rw [hBW0] at ho;cases ho;rfl) hfW
  have hneL:w.heap.size+1≠b':=by omega
  have hneK:w.heap.size≠b':=by omega
  have hLW:=(hfW.block _ (Array.getElem?_eq_some_iff.1 hLW0).1 hneL).trans hLW0
  have hKW:=(hfW.block _ (Array.getElem?_eq_some_iff.1 hKW0).1 hneK).trans hKW0
  rw [zKS hz0] at hM
  generalize hy:(zCC z).1=y at hM hBW1 ⊢
  generalize hrest:(zCC z).2=rest at hM hBW1 ⊢
  have hrl:rest.length<=9223372036854775807:=by have:=zIz hz0;rw [hrest] at this;omega
  have hyr:=run_yield (P:=G.P) (args := #[.string ⟨⟨y⟩⟩]) hLW (by rw [hrec];rfl)
  rw [hrec] at hyr
  refine ⟨fnn,_,_,_,hyr,roundIn_of_wpIn trivial ?_⟩
  obtain ⟨ar,har⟩:∃ar:Act,ar=(({ tmps:=a.tmps,defers:=[] }:Act).put (some t1) (.string ⟨⟨y⟩⟩)):=⟨_,rfl⟩
  have hpr:Pre' Gx ((t1,.v (.string ⟨⟨y⟩⟩))::E0) (Sf x) ar W1 σ' φ':=by
   have p0:Pre' Gx E0 (Sf x) { tmps:=a.tmps,defers:=[] } W1 σ' φ':={ hpW with defers:=DOk.nil _ _,size:=hpW.size,env:=hpW.env }
   rw [har]
   exact p0.put (zCB hlt1) (.d (.v rfl))
  have har':({ tmps:=(Array.zip #[t1] #[.string ⟨⟨y⟩⟩]).foldl (fun tmps (t,a)=>tmps.setIfInBounds t a) a.tmps,defers:=[] }:Act)=ar:=by rw [har];simp [Act.put]
  rw [har']
  have hlW:Lay G.L (fun b=>¬foot φ' (Sf x) b) W1:=hpW.laid (G:=Gx) fun b h=>h
  have notp:∀c a w,¬kwp (⟨G.P,G.fn,W1,X',foot φ' (Sf x),σ',N1,fun _ _ _=>True,G.dz,G.L,hlW,some (w.heap.size+1)⟩:Ctx Unit) () [.iter fun _ a w=>Pre (⟨G.P,G.fn,W1,X',foot φ' (Sf x),σ',N1,fun _ _ _=>True,G.dz,G.L,hlW,some (w.heap.size+1)⟩:Ctx Unit) (E1 y) (Sf x) a w] (.panic c) a w:=fun c a w h=>zEG h
  have hopA:=hA y x W1 X' (foot φ' (Sf x)) σ' hlW (some (w.heap.size+1)) () rfl ar W1 ⟨σ',φ',hpr.defers,hpr.size,hpr.env,hpr.inv,Fr.refl _ _,fun _ _=>rfl,fun b hb _=>hb⟩
  refine wpIn_region_lit (F:=FR (some (w.heap.size+1))) ?_
  have:=zLr (ro:=some (w.heap.size+1)) (n:=0) (l2:=[]) (Q':=Exit.then (fun a₁ w₁ => ∃w₂,(Instr.beginRound (w.heap.size+1)).run G.P w₁ = .ok () w₂ /\ cb.wpIn (Fence.wide.inRound (w.heap.size+1)) 0 G.P (roundPost G.P (w.heap.size+1) fun e W'=>(e=.returned (.bool true)/\J rest W')\/(e=.returned (.bool false)/\JX W')) a₁ w₂) (fun _ _ _=>False))
   (fun _ _ _=>zEG) (fun _ _=>zCw) ?_ hdA hopA
  ·rw [List.append_nil] at this;exact this
  rintro a1 w1' ⟨σ1,φ1,hp1⟩
  refine wpListIn_nil ?_
  obtain ⟨o1,d1⟩:=Pre'.over (N1:=N1) hpW hp1.inv hp1.fr hp1.agree hp1.new hEN hNN
  have hLlt:=(Array.getElem?_eq_some_iff.1 hLW).1
  have hKlt:=(Array.getElem?_eq_some_iff.1 hKW).1
  obtain ⟨frB1,hBW,hfB1⟩:=hBW1
  have hBlt:=(Array.getElem?_eq_some_iff.1 hBW).1
  have hL1':=(hp1.fr.block _ hLlt (hplain hpW.inv (by rw [hLW];rfl))).trans hLW
  have hK1':=(hp1.fr.block _ hKlt (hplain hpW.inv (by rw [hKW];rfl))).trans hKW
  have hB1':=(hp1.fr.block _ hBlt (fun h=>(hpW.inv.lt _ h).2 hXB)).trans hBW
  have tb:Turn G.w0.heap.size [w.heap.size+1] w1' (w1'.putObj (w.heap.size+1) (.loop { rec .ready none with state:=.busy })):=zFP hL1' (by omega)
  refine ⟨_,run_beginRound hL1' (by rw [hrec]),?_⟩
  generalize hw2:w1'.putObj (w.heap.size+1) (.loop { rec .ready none with state:=.busy })=w2 at *
  have hL2:w2.heap[w.heap.size+1]? = some (.loop { rec .ready none with state:=.busy }):=by rw [<- hw2];exact World.putObj_heap_same (Array.getElem?_eq_some_iff.1 hL1').1
  have hK2:=(tb.old _ (Array.getElem?_eq_some_iff.1 hK1').1 (by simp)).trans hK1'
  have hbn:b'≠w.heap.size+1:=fun e=>by omega
  have hB2:=(tb.old _ (Array.getElem?_eq_some_iff.1 hB1').1 (by simpa using hbn)).trans hB1'
  obtain ⟨i2,r2,rd2⟩:=tb.keeps hp1.inv
  have o2:=Pre'.tick (G:=Gx) tb o1
  have hl2:Lay G.L (fun b=>¬foot φ1 (Sf x) b) w2:=o2.laid (G:=Gx) fun b h=>h
  have hopB:=hB y (zCK rest) x w2 X' (foot φ1 (Sf x)) σ1 hl2 (some (w.heap.size+1)) r hM a1 w2 ⟨σ1,φ1,tb.marks hp1.defers,hp1.size,fun t p h=>let ⟨u,hu,hr⟩:=hp1.env t p h;⟨u,hu,r2 _ _ hr⟩,i2,Fr.refl _ _,fun _ _=>rfl,fun b hb _=>hb⟩
  refine wpIn_mono hopB fun e a3 w3 hq=>?_
  have keep3:∀{S3:Store} {σ3:Nat->Value} {φ3:Nat->Nat->Prop} {E3:Env} {H:Ctx ρ},Pre' H E3 S3 a3 w3 σ3 φ3->H.w0=w2->H.X0=foot φ1 (Sf x)->H.X=X' ->
    w3.heap[w.heap.size+1]? = some (.loop { rec .ready none with state:=.busy })/\w3.heap[w.heap.size]? = some (.deferred (some []))/\w3.heap[b']? = some (.cells ⟨[.string ⟨⟨rest⟩⟩]⟩ tS frB1):=fun {S3 σ3 φ3 E3 H} hp3 e1 e2 e3=>by
   have hfr:=hp3.fr
   rw [e1,e2] at hfr
   exact ⟨(hfr.block _ (Array.getElem?_eq_some_iff.1 hL2).1 (hplain i2 (by rw [hL2];rfl))).trans hL2,(hfr.block _ (Array.getElem?_eq_some_iff.1 hK2).1 (hplain i2 (by rw [hK2];rfl))).trans hK2,(hfr.block _ (Array.getElem?_eq_some_iff.1 hB2).1 (fun h=>(i2.lt _ h).2 hXB)).trans hB2⟩
  cases e with
  | normal =>
   obtain ⟨x',hM',σ3,φ3,hp3⟩:=hq
   obtain ⟨hL3,hK3,hB3⟩:=keep3 hp3 rfl rfl rfl
   obtain ⟨o3,_⟩:=Pre'.over (N1:=N1) o2 hp3.inv hp3.fr hp3.agree hp3.new hEN hNN
   have tr:=run_endRound (P:=G.P) none hL3
   have er:({ ({ rec .ready none with state:=.busy }:Loop) with state:=if (none:Option Code).isNone then .ready else .done,pending:=none }:Loop)=rec .ready none:=by rw [hrec];rfl
   rw [er] at tr
   have tc:Turn G.w0.heap.size [w.heap.size+1] w3 (w3.putObj (w.heap.size+1) (.loop (rec .ready none))):=zFP hL3 (by omega)
   exact ⟨_,_,tr,.inl ⟨rfl,x',σ3,φ3,hM',Pre'.tick (G:=Gx) tc o3,World.putObj_heap_same (Array.getElem?_eq_some_iff.1 hL3).1,(tc.old _ (Array.getElem?_eq_some_iff.1 hK3).1 (by simp)).trans hK3,⟨frB1,(tc.old _ (Array.getElem?_eq_some_iff.1 hB3).1 (by simpa using hbn)).trans hB3,hfB1⟩,hrl⟩⟩
  | ret =>
   obtain ⟨σ3,φ3,hp3⟩:=hq
   obtain ⟨hL3,hK3,_⟩:=keep3 hp3 rfl rfl rfl
   obtain ⟨o3,_⟩:=Pre'.over (N1:=N1) o2 hp3.inv hp3.fr hp3.agree hp3.new hEN hNN
   have tr:=run_endRound (P:=G.P) (some .ret) hL3
   have er:({ ({ rec .ready none with state:=.busy }:Loop) with state:=if (some Code.ret).isNone then .ready else .done,pending:=some .ret }:Loop)=rec .done (some .ret):=by rw [hrec];rfl
   rw [er] at tr
   have tc:Turn G.w0.heap.size [w.heap.size+1] w3 (w3.putObj (w.heap.size+1) (.loop (rec .done (some .ret)))):=zFP hL3 (by omega)
   exact ⟨_,_,tr,.inr ⟨rfl,σ3,φ3,Pre'.tick (G:=Gx) tc o3,World.putObj_heap_same (Array.getElem?_eq_some_iff.1 hL3).1,(tc.old _ (Array.getElem?_eq_some_iff.1 hK3).1 (by simp)).trans hK3⟩⟩
  | _=>exact False.elim hq
 -- the whole
 have hb1:w1.heap[b']? = some (.cells ⟨[.string ⟨⟨s⟩⟩]⟩ tS fr0):=(hold1 b' hlt').trans hcell
 have hJ0:J s w1:=⟨x0,σ,φ,hr,Pre'.tick (G:=Gx) turn1 hpx,hL1,hK1,⟨fr0,hb1,hfr0⟩,hs⟩
 have hcalls:=zTb (T:=T) (P:=G.P) hf hb hn hres hty hbs hcut hline hJ0
 refine ⟨w.heap.size+1,[{ target:=.collected w.heap.size,args := #[] }],w1,{ target:=.fn (.func g) #[.pointer (some ⟨b',0,none⟩)],args := #[.func (.yield (w.heap.size+1)) #[] #[]] },w1,g,
  #[.func (.yield (w.heap.size+1)) #[] #[]] ++ #[.pointer (some ⟨b',0,none⟩)],w1,?_,?_,fun _ _=>trivial,?_,fun h=>(by cases h),?_⟩
 ·rw [<- hw1,hrec];exact run_enterLoop_outer _ _ _ _ _
 ·simp only [resolve,hgv]
  simp [Deferred.ofValue,Act.eval]
 ·simp [invoke,zEs hcl]
 refine callsIn_wide.2 ((callsIn_wide (n:=1)).1 (CallsIn.mono hcalls ?_))
 have hmarks:∀{W:World} {ds:List Deferred} (hd:DOk G.dz ds W) (hds:ds=a.defers) (hKW:W.heap[w.heap.size]? = some (.deferred (some []))),DOk G.dz (mark w.heap.size::a.defers) W:=fun {W ds} hd hds hKW=>by
  obtain ⟨bs,h1,h2,h3⟩:=hd
  obtain ⟨bs0,h10,h20,h30⟩:=hp.defers
  refine ⟨w.heap.size::bs,by rw [<- hds,h1];rfl,List.nodup_cons.2 ⟨fun hm=>?_,h2⟩,fun b hb=>?_⟩
  ·have:mark w.heap.size∈bs0.map mark:=by rw [<- h10,<- hds,h1];exact List.mem_map.2 ⟨_,hm,rfl⟩
   obtain ⟨b0,hb0,e0⟩:=List.mem_map.1 this
   have:b0=w.heap.size:=by simp only [mark,Deferred.mk.injEq,Target.collected.injEq] at e0;exact e0.1
   subst this
   have:=(Array.getElem?_eq_some_iff.1 (h30 _ hb0).2).1
   omega
  ·rcases List.mem_cons.1 hb with rfl | hb
   ·exact ⟨by omega,hKW⟩
   ·exact h3 b hb
 rintro e W ⟨⟨v,rfl⟩,hJJ⟩
 rcases hJJ with ⟨x,σ',φ',hM,hpW,hLW,hKW,_,_⟩ | ⟨σ',φ',hpW,hLW,hKW⟩
 ·refine ⟨none,_,by have:=run_endLoop (P:=G.P) hLW (by rw [hrec];simp);rw [hrec] at this;exact this,?_⟩
  have te:Turn G.w0.heap.size [w.heap.size+1] W (W.putObj (w.heap.size+1) (.loop { rec .ready none with state:=.exhausted })):=zFP hLW (by omega)
  rw [hrec] at te
  have hfin:Pre' G E0 (Sf x) a _ σ' φ':=Pre'.unbar (G:=G) (X':=X') (fun b hb=>Or.inl hb) (Pre'.tick (G:=Gx) te hpW)
  exact hend x r hM _ _ ⟨σ',φ',{ hfin with defers:=hmarks hfin.defers rfl ((te.old _ (Array.getElem?_eq_some_iff.1 hKW).1 (by simp)).trans hKW),size:=hfin.size,env:=hfin.env }⟩
 ·refine ⟨some .ret,_,by have:=run_endLoop (P:=G.P) hLW (by rw [hrec];simp);rw [hrec] at this;exact this,?_⟩
  have te:Turn G.w0.heap.size [w.heap.size+1] W (W.putObj (w.heap.size+1) (.loop { rec .done (some .ret) with state:=.exhausted })):=zFP hLW (by omega)
  rw [hrec] at te
  have hfin:Pre' G E0 (SR r) a _ σ' φ':=Pre'.unbar (G:=G) (X':=X') (fun b hb=>Or.inl hb) (Pre'.tick (G:=Gx) te hpW)
  have:=hret r r rfl { a with defers:=mark w.heap.size::a.defers } _ ⟨σ',φ',{ hfin with defers:=hmarks hfin.defers rfl ((te.old _ (Array.getElem?_eq_some_iff.1 hKW).1 (by simp)).trans hKW),size:=hfin.size,env:=hfin.env }⟩
  rw [hro] at this
  exact zKn this
end stmt
def zVZ (tS tF : TypeId) : List Oper := [opB 1 (.box tS (.tmp 0)) 0 "iter.go:18" #[], opB 2 (.assign (.const .nilFunc)) tF "iter.go:18" #[]]
def zVa (tF tG : TypeId) (g : FuncId) : List Oper := [opB 3 (.makeFunc (.func g) #[] #[.tmp 1]) tG "iter.go:19" #[], opB 2 (.assign (.tmp 3)) tF "iter.go:19" #[ed 0, ep 0]]
def zK9 (tS tF tG:TypeId) (g:FuncId):Code:=.seq (.region 0 (zVZ tS tF).toArray false) (.seq (.region 1 (zVa tF tG g).toArray false) .ret)
theorem zRa {L:World->Prop} {P:Program} {f g:FuncId} {fn:Func} {tS tF tG:TypeId} (T:Tab P) (hf:P.funcs[f]? = some fn) (hb:fn.body=some (zK9 tS tF tG g)) (hn:fn.ntmps=4) (hres:fn.results = #[.tmp 2]) {s:List UInt8} :
  FC L P f [.v (.string ⟨⟨s⟩⟩)] [] [] fun p S'=>p=.fn (.func g) [] [.loc 1 0]/\S'=[(1,.box tS [.v (.string ⟨⟨s⟩⟩)])]:=by
 have lt:∀d,d<4->Nat.blt d fn.ntmps=true:=fun d h=>by rw [hn,Nat.blt_eq];exact h
 refine zJi (m:=some ()) (r:=()) (args:=[.v (.string ⟨⟨s⟩⟩)]) (S:=[]) (N0:=[]) (post:=fun _ p S'=>p=.fn (.func g) [] [.loc 1 0]/\S'=[(1,.box tS [.v (.string ⟨⟨s⟩⟩)])]) hf hb (by rw [hn];rfl) rfl fun w0 X X0 σ0 _=>?_
 refine zAD ?_
 refine zAC ?_
 refine zDl 1 rfl rfl rfl rfl rfl (lt 1 (by omega)) rfl rfl rfl rfl ?_
 refine zDm (T:=T) 1 hn.symm rfl ?_
 refine zAE ?_
 refine zAA ?_
 refine zAD ?_
 refine zAC ?_
 refine zDm (T:=T) 2 hn.symm rfl ?_
 refine zAE ?_
 refine zAA ?_
 exact zSB (S':=[(1,.box tS [.v (.string ⟨⟨s⟩⟩)])]) (zCd ⟨rfl,trivial⟩ rfl) hres rfl ⟨rfl,rfl⟩
section
variable {ρ : Type} {G:Ctx ρ} {m:Option ρ} {K:List (Kont ρ)} {E:Env} {S:Store} {all:Array Oper}
theorem zRx {o:Oper} {rest:List Oper} {x:Operand} {f g n d:Nat} {fn:Func} {args:Array Operand} {tys:Array TypeId} {tS tF tG:TypeId} {s:List UInt8} {E':Env} {S1 S2:Store} (T:Tab G.P) (hf:G.P.funcs[f]? = some fn)
  (hb:fn.body=some (zK9 tS tF tG g)) (hn:fn.ntmps=4) (hres:fn.results = #[.tmp 2]) (hdr:zLm [] S=some S1) (hkS:zHR [n] S1=some S2) (hkE:zGM [n] E=some E') (h2:zCV ([n]++S2.map (·.1))=true) (h4:[n].all (zEX G)=true)
  (hcl:zE1 [n] [.fn (.func g) [] [.loc n 0]]=true)
  (ho:o.op=.call ⟨.value x,args,tys⟩) (hx:ev E x=some (.fn (.func f) [] [])) (hg:gE all E o=some true) (ha:zH4 E args.toList [.v (.string ⟨⟨s⟩⟩)]) (hcf:zAJ G.P f=true) (hd:o.dst=some d) (hlt:Nat.blt d G.fn.ntmps=true)
  (k:PO G m all rest K ((d,.fn (.func g) [] [.loc n 0])::E') ((n,.box tS [.v (.string ⟨⟨s⟩⟩)])::S2)):PO G m all (o::rest) K E S:=by
 have hcl2:zEC ([]++[n]) [(n,.box tS [.v (.string ⟨⟨s⟩⟩)])]=true:=by simp [zEC,zE1,names]
 refine zOB (M:=some ()) (g:=fun _=>m) (enc:=fun _=>.fn (.func g) [] [.loc n 0]) (Sr:=fun _=>[(n,.box tS [.v (.string ⟨⟨s⟩⟩)])]) (first:=[]) (cap:=[]) (qs:=[.v (.string ⟨⟨s⟩⟩)]) (Sc:=[]) (N0:=[]) (NR:=[n]) [n] (fun _ _=>?_) trivial (fun _=>rfl) hdr hkS hkE rfl h2 ?_ h4 (fun _=>hcl2) (fun _=>hcl) ho hx hg ha hcf hd hlt fun _ _=>k
 ·have:=zK2 (L:=G.L) (p:=.fn (.func g) [] [.loc 1 0]) (Sc:=[]) (Sr:=[(1,.box tS [.v (.string ⟨⟨s⟩⟩)])]) [(1,n)] [1] (zRa (g:=g) T hf hb hn hres (s:=s)) rfl rfl rfl rfl rfl rfl
  exact this
 ·simp [subN]
end
end Go.Pw
