/- What the library's functions answer, as plain functions of data, and their contracts over the shelf's. -/
import Derived.Test.YtoboimmgglnjfaaGreatDoorShf
import Derived.Test.YtoboimmgglnjfaaGreatDoorShl
import Derived.Test.YtoboimmgglnjfaaGreatDoorQuo5
import Derived.Test.YtoboimmgglnjfaaGreatDoorJoi
namespace Go.Proofs.YtoboimmgglnjfaaGreatDoor
open Go Go.Pw
abbrev Bs:=List UInt8
def zAf (w : World) : Prop := Lib.TabIs Tryz.prog w "internal/strconv.uint64pow10" .u64 Lib.pow10Tab ∧ Lib.TabIs Tryz.prog w "strings.asciiSpace" .u8 Lib.asciiSpaceTab ∧ zRA w 3 ∧ zRA w 4 ∧ True
theorem zP5 {W w':World} (hk:∀b,b<W.heap.size->w'.heap[b]? = W.heap[b]?) (h:zAf W):zAf w':=⟨zPi hk h.1,zPi hk h.2.1,zOp hk h.2.2.1,zOp hk h.2.2.2.1,trivial⟩
def zJC (_fu:Nat) (s:Bs):Option Bs:=if s.length<=1000000000 then some (34::quoL s++[34]) else none
theorem zPQ (fu:Nat) (s:Bs):∀r,zJC fu s=some r->DC zAf Tryz.prog 91 [.v (.string ⟨⟨s⟩⟩)] (.v (.string ⟨⟨r⟩⟩)):=by
 intro r hr
 unfold zJC at hr
 split at hr
 ·rename_i h
  cases hr
  refine zJh (us:=[.string ⟨⟨s⟩⟩]) rfl rfl fun w hl=>?_
  refine (quote_ ⟨⟨s⟩⟩ h w).mono ?_
  rintro e w' ⟨rfl,hb⟩
  exact ⟨_,rfl,⟨hb.os,hb.tape,hb.output,hb.size,hb.block⟩,.v rfl⟩
 ·cases hr
def zKM (_fu:Nat) (s:Bs) (c:Int):Option Int:=some (Lib.indexByte s c.toNat.toUInt8)
theorem zMt (fu:Nat) (s:Bs) (c:Int):∀r,zKM fu s c=some r->DC zAf Tryz.prog 74 [.v (.string ⟨⟨s⟩⟩),.v (.int .u8 c)] (.v (.int .i64 r)):=by
 intro r hr
 cases hr
 exact zQ3 (us:=[.string ⟨⟨s⟩⟩,.int .u8 c]) rfl rfl (fun w=>Tryz.strings_IndexByte ⟨⟨s⟩⟩ c w) rfl
def zHk (_fu:Nat) (s sub:Bs):Option Int:=match sub with
 | [c]=>some (Lib.indexByte s c)
 | _=>none
theorem zMs (fu:Nat) (s sub:Bs):∀r,zHk fu s sub=some r->DC zAf Tryz.prog 109 [.v (.string ⟨⟨s⟩⟩),.v (.string ⟨⟨sub⟩⟩)] (.v (.int .i64 r)):=by
 intro r hr
 match sub,hr with
 | [c],hr =>
  cases hr
  exact zQ3 (us:=[.string ⟨⟨s⟩⟩,.string ⟨⟨[c]⟩⟩]) rfl rfl (fun w=>Tryz.stringslite_Index_one ⟨⟨s⟩⟩ c w) rfl
def zK6 (_fu:Nat) (n:Int):Option Bs:=if -9223372036854775808<=n/\n<=9223372036854775807 then some (Lib.itoa n) else none
theorem zRX (fu:Nat) (n:Int):∀r,zK6 fu n=some r->DC zAf Tryz.prog 87 [.v (.int .i64 n)] (.v (.string ⟨⟨r⟩⟩)):=by
 intro r hr
 unfold zK6 at hr
 split at hr
 ·rename_i h
  cases hr
  refine zJh (us:=[.int .i64 n]) rfl rfl fun w hl=>?_
  refine (Tryz.strconv_Itoa n h.1 h.2 w hl.1).mono ?_
  rintro e w' ⟨rfl,k,os,rfl⟩
  exact ⟨_,rfl,⟨rfl,rfl,rfl,by simp [Sort.grow,World.drewN],fun b hb=>by simp [Sort.grow,World.drewN,Array.getElem?_append_left hb]⟩,.v rfl⟩
 ·cases hr
def zKB (_fu:Nat) (s:Bs):Option (Int×Bool):=if s.length<=281474976710656 then some (match Lib.atoiAll s with
 | .ok v=>(v,false)
 | .range=>(Lib.atoiSat s,true)
 | _=>(0,true)) else none
theorem zVA (fu:Nat) (s:Bs):∀r,zKB fu s=some r->DC zAf Tryz.prog 86 [.v (.string ⟨⟨s⟩⟩)] (.tup [.v (.int .i64 r.1),.err r.2]):=by
 intro r hr
 unfold zKB at hr
 split at hr
 ·rename_i h
  refine zJh (us:=[.string ⟨⟨s⟩⟩]) rfl rfl fun w hl=>?_
  obtain ⟨v1,c1,e1⟩:=hl.2.2.1
  obtain ⟨v2,c2,e2⟩:=hl.2.2.2.1
  have tup:∀{w:World} {D:Nat->Prop} {n:Int} {b:Bool} {u:Value},RD w D (.err b) u->RD w D (.tup [.v (.int .i64 n),.err b]) (.tuple #[.int .i64 n,u]):=fun hu=>.tup rfl fun i c u h1 h2=>by
   match i,h1,h2 with
   | 0,h1,h2=>cases h1;cases h2;exact .v rfl
   | 1,h1,h2=>cases h1;cases h2;exact hu
  generalize hat:Lib.atoiAll s=q at hr
  rcases q with v | _ | _
  ·cases hr
   refine (Tryz.strconv_Atoi_ok ⟨⟨s⟩⟩ (show s.length<=_ by omega) v hat w).mono ?_
   rintro e w' ⟨rfl,rfl | ⟨t,rfl⟩⟩
   ·exact ⟨_,rfl,zKu _,tup .err0⟩
   ·exact ⟨_,rfl,Lib.bytesWorld_below _ _ _,tup .err0⟩
  ·cases hr
   refine (Tryz.strconv_Atoi_syntax ⟨⟨s⟩⟩ h hat v1 w c1 e1).mono ?_
   rintro e w' ⟨N,rfl,_,_,hb⟩
   exact ⟨_,rfl,hb,tup .err1⟩
  ·cases hr
   refine (Tryz.strconv_Atoi_range ⟨⟨s⟩⟩ h hat v2 w c2 e2).mono ?_
   rintro e w' ⟨N,rfl,_,_,hb⟩
   exact ⟨_,rfl,hb,tup .err1⟩
 ·cases hr
theorem zQy:∀(s:Bs) (b:Bool),Lib.cntF b s<=s.length
 | [],_=>Nat.le_refl _
 | x::l,b=>by
  have:=zQy l (Lib.isSp x)
  simp only [Lib.cntF,List.length_cons]
  split<;>omega
theorem zRH (s:Bs):(Lib.fields s).length<=s.length:=by rw [Lib.fields_length];exact zQy s true
def zJj (_fu:Nat) (s:Bs):Option (List Bs):=if s.length<4294967281/\(s.all fun b=>decide (b.toNat<128))=true then some (Lib.fields s) else none
theorem zMj (fu:Nat) (s:Bs):∀r,zJj fu s=some r->DC zAf Tryz.prog 67 [.v (.string ⟨⟨s⟩⟩)] (.sl 1 false (r.map fun x=>[.v (.string ⟨⟨x⟩⟩)])):=by
 intro r hr
 unfold zJj at hr
 split at hr
 ·rename_i h
  cases hr
  refine zJh (us:=[.string ⟨⟨s⟩⟩]) rfl rfl fun w hl=>?_
  refine (Tryz.strings_Fields_laid ⟨⟨s⟩⟩ w h.1 (fun j b hb=>by have:=List.all_eq_true.1 h.2 b (List.mem_of_getElem? hb);simpa using this) hl.2.1).mono ?_
  rintro e w' ⟨rfl,rfl⟩
  refine ⟨_,rfl,(zKu w).alloc (Nat.le_refl _) _,zTu (World.alloc_heap_new w _) ?_ (by simp)⟩
  have:(Lib.fields s).length<=s.length:=zRH s
  show (Lib.fields s).length<=maxLen
  have:maxLen=9223372036854775807:=rfl
  omega
 ·cases hr
def zMw (_fu:Nat) (ws:List Bs) (sep:Bs):Option Bs:=if ws≠[]/\ws.length<=140737488355328/\(Lib.join ws sep).length<=140737488355328 then some (Lib.join ws sep) else none
theorem zVX (fu n e:Nat) (ws:List Bs) (sep:Bs):∀r,zMw fu ws sep=some r->FC zAf Tryz.prog 66 [.own n,.v (.string ⟨⟨sep⟩⟩)] [(n,.arr e 1 (ws.map fun x=>[.v (.string ⟨⟨x⟩⟩)]))] [n] fun p S'=>p=.v (.string ⟨⟨r⟩⟩)/\S'=[(n,.arr e 1 (ws.map fun x=>[.v (.string ⟨⟨x⟩⟩)]))]:=by
 intro r hr
 unfold zMw at hr
 split at hr
 ·rename_i h
  cases hr
  exact zVR (fun bk o c xs sep w h1 h2 h3 h4 h5=>Tryz.strings_Join bk o c xs sep w h1 h2 h3 h4 h5) h.1 h.2.1 h.2.2
 ·cases hr
end Go.Proofs.YtoboimmgglnjfaaGreatDoor
