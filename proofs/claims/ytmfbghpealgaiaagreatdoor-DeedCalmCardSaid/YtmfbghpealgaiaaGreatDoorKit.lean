/- What the library's functions answer, as plain functions of data, and their contracts over the shelf's. -/
import Derived.Test.YtmfbghpealgaiaaGreatDoorShf
import Derived.Test.YtmfbghpealgaiaaGreatDoorCo3
import Derived.Test.YtmfbghpealgaiaaGreatDoorWhy3
namespace Go.Proofs.YtmfbghpealgaiaaGreatDoor
open Go Go.Pw
open Go.Lib renaming fields->eY
abbrev Bs:=List UInt8
def zRW (w : World) : Prop := Lib.TabIs Tryz.prog w "strings.asciiSpace" .u8 Lib.asciiSpaceTab ∧ zVG w ∧ True
theorem zZB {W w':World} (a:∀b,b<W.heap.size->w'.heap[b]? = W.heap[b]?) (h:zRW W):zRW w':=⟨zeH a h.1,zXr a h.2.1,trivial⟩
def zcN (_fu:Nat) (x:Option (Bs×Int)):Option Int:=some (match x with | none=>0 | some p=>p.2)
theorem zLr (fu:Nat) (x:Option (Bs×Int)):∀r,zcN fu x=some r->DC zRW Tryz.prog 92 [.v (zRL 181 179 x)] (.v (.int .i64 r)):=by
 intro r hr
 cases hr
 refine zXh (us:=[zRL 181 179 x]) rfl (by simp [zab]) fun w b=>?_
 cases x with
 | none =>
  refine (zeW w).mono ?_
  rintro e c ⟨rfl,a⟩
  exact ⟨_,rfl,a,.v rfl⟩
 | some p =>
  refine (zeX p.1 p.2 w b.2.1).mono ?_
  rintro e c ⟨rfl,a⟩
  exact ⟨_,rfl,a,.v rfl⟩
def zTq (_fu:Nat) (s sub:Bs):Option Int:=match sub with
 | [c]=>some (Lib.indexByte s c)
 | _=>none
theorem zas (fu:Nat) (s sub:Bs):∀r,zTq fu s sub=some r->DC zRW Tryz.prog 222 [.v (.string ⟨⟨s⟩⟩),.v (.string ⟨⟨sub⟩⟩)] (.v (.int .i64 r)):=by
 intro r hr
 match sub,hr with
 | [c],hr =>
  cases hr
  exact zfh (us:=[.string ⟨⟨s⟩⟩,.string ⟨⟨[c]⟩⟩]) rfl rfl (fun w=>Tryz.stringslite_Index_one ⟨⟨s⟩⟩ c w) rfl
theorem zaI:∀(s:Bs) (b:Bool),Lib.cntF b s<=s.length
 | [],_=>Nat.le_refl _
 | x::l,b=>by
  have:=zaI l (Lib.isSp x)
  simp only [Lib.cntF,List.length_cons]
  split<;>omega
theorem zag (s:Bs):(eY s).length<=s.length:=by rw [Lib.fields_length];exact zaI s true
def zQX (_fu:Nat) (s:Bs):Option (List Bs):=if s.length<4294967281/\(s.all fun b=>decide (b.toNat<128))=true then some (eY s) else none
theorem zVC (fu:Nat) (s:Bs):∀r,zQX fu s=some r->DC zRW Tryz.prog 221 [.v (.string ⟨⟨s⟩⟩)] (.sl 1 false (r.map fun x=>[.v (.string ⟨⟨x⟩⟩)])):=by
 intro r hr
 unfold zQX at hr
 split at hr
 ·rename_i h
  cases hr
  refine zXh (us:=[.string ⟨⟨s⟩⟩]) rfl rfl fun w c=>?_
  refine (Tryz.strings_Fields_laid ⟨⟨s⟩⟩ w h.1 (fun j b a=>by have:=List.all_eq_true.1 h.2 b (List.mem_of_getElem? a);simpa using this) c.1).mono ?_
  rintro e d ⟨rfl,rfl⟩
  refine ⟨_,rfl,(zYr w).alloc (Nat.le_refl _) _,zd2 (World.alloc_heap_new w _) ?_ (by simp)⟩
  have:(eY s).length<=s.length:=zag s
  show (eY s).length<=maxLen
  have:maxLen=9223372036854775807:=rfl
  omega
 ·cases hr
theorem zav (fu n q:Nat) (xs:List Int) (i:Int) (ys:List Int) (a:Nat.beq n q=false:=by rfl):∀r,zMp fu xs i ys=some r->FC zRW Tryz.prog 98 [.own n,.v (.int .i64 i),.own q] [(n,.arr 3 1 (xs.map fun i=>[.v (.int .i64 i)])),(q,.arr 3 1 (ys.map fun i=>[.v (.int .i64 i)]))] [q] fun p b=>p=.own n/\b=[(n,.arr 3 1 (r.map fun i=>[.v (.int .i64 i)])),(q,.arr 3 1 (ys.map fun i=>[.v (.int .i64 i)]))] :=
 zau (enc:=fun i=>[.v (.int .i64 i)]) (fun _=>rfl) (Any2.slices_Insert_int_shift Tryz.insLaid) (Any2.slices_Insert_int_end_room Tryz.insLaid) (Any2.slices_Insert_int_end_grow Tryz.insLaid) (Any2.slices_Insert_int_grow Tryz.insLaid) rfl fu n q a xs i ys
end Go.Proofs.YtmfbghpealgaiaaGreatDoor
