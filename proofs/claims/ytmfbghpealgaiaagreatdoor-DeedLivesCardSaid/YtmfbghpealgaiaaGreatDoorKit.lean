/- What the library's functions answer, as plain functions of data, and their contracts over the shelf's. -/
import Derived.Test.YtmfbghpealgaiaaGreatDoorShf
import Derived.Test.YtmfbghpealgaiaaGreatDoorCo3
import Derived.Test.YtmfbghpealgaiaaGreatDoorWhy3
namespace Go.Proofs.YtmfbghpealgaiaaGreatDoor
open Go Go.Pw
open Go.Lib renaming fields->eY
abbrev Bs:=List UInt8
def zRm (w : World) : Prop := Lib.TabIs Tryz.prog w "strings.asciiSpace" .u8 Lib.asciiSpaceTab ∧ zVU w ∧ True
theorem zZQ {W w':World} (a:∀b,b<W.heap.size->w'.heap[b]? = W.heap[b]?) (h:zRm W):zRm w':=⟨zee a h.1,zX4 a h.2.1,trivial⟩
def zcj (_fu:Nat) (x:Option (Bs×Int)):Option Int:=some (match x with | none=>0 | some p=>p.2)
theorem zL4 (fu:Nat) (x:Option (Bs×Int)):∀r,zcj fu x=some r->DC zRm Tryz.prog 92 [.v (zRa 181 179 x)] (.v (.int .i64 r)):=by
 intro r hr
 cases hr
 refine zXr (us:=[zRa 181 179 x]) rfl (by simp [zas]) fun w b=>?_
 cases x with
 | none =>
  refine (zeu w).mono ?_
  rintro e c ⟨rfl,a⟩
  exact ⟨_,rfl,a,.v rfl⟩
 | some p =>
  refine (zev p.1 p.2 w b.2.1).mono ?_
  rintro e c ⟨rfl,a⟩
  exact ⟨_,rfl,a,.v rfl⟩
def zT9 (_fu:Nat) (s sub:Bs):Option Int:=match sub with
 | [c]=>some (Lib.indexByte s c)
 | _=>none
theorem za9 (fu:Nat) (s sub:Bs):∀r,zT9 fu s sub=some r->DC zRm Tryz.prog 222 [.v (.string ⟨⟨s⟩⟩),.v (.string ⟨⟨sub⟩⟩)] (.v (.int .i64 r)):=by
 intro r hr
 match sub,hr with
 | [c],hr =>
  cases hr
  exact zf7 (us:=[.string ⟨⟨s⟩⟩,.string ⟨⟨[c]⟩⟩]) rfl rfl (fun w=>Tryz.stringslite_Index_one ⟨⟨s⟩⟩ c w) rfl
theorem zab:∀(s:Bs) (b:Bool),Lib.cntF b s<=s.length
 | [],_=>Nat.le_refl _
 | x::l,b=>by
  have:=zab l (Lib.isSp x)
  simp only [Lib.cntF,List.length_cons]
  split<;>omega
theorem zax (s:Bs):(eY s).length<=s.length:=by rw [Lib.fields_length];exact zab s true
def zQf (_fu:Nat) (s:Bs):Option (List Bs):=if s.length<4294967281/\(s.all fun b=>decide (b.toNat<128))=true then some (eY s) else none
theorem zVQ (fu:Nat) (s:Bs):∀r,zQf fu s=some r->DC zRm Tryz.prog 221 [.v (.string ⟨⟨s⟩⟩)] (.sl 1 false (r.map fun x=>[.v (.string ⟨⟨x⟩⟩)])):=by
 intro r hr
 unfold zQf at hr
 split at hr
 ·rename_i h
  cases hr
  refine zXr (us:=[.string ⟨⟨s⟩⟩]) rfl rfl fun w c=>?_
  refine (Tryz.strings_Fields_laid ⟨⟨s⟩⟩ w h.1 (fun j b a=>by have:=List.all_eq_true.1 h.2 b (List.mem_of_getElem? a);simpa using this) c.1).mono ?_
  rintro e d ⟨rfl,rfl⟩
  refine ⟨_,rfl,(zY8 w).alloc (Nat.le_refl _) _,zeP (World.alloc_heap_new w _) ?_ (by simp)⟩
  have:(eY s).length<=s.length:=zax s
  show (eY s).length<=maxLen
  have:maxLen=9223372036854775807:=rfl
  omega
 ·cases hr
theorem zbD (fu n q:Nat) (xs:List Int) (i:Int) (ys:List Int) (a:Nat.beq n q=false:=by rfl):∀r,zMy fu xs i ys=some r->FC zRm Tryz.prog 98 [.own n,.v (.int .i64 i),.own q] [(n,.arr 3 1 (xs.map fun i=>[.v (.int .i64 i)])),(q,.arr 3 1 (ys.map fun i=>[.v (.int .i64 i)]))] [q] fun p b=>p=.own n/\b=[(n,.arr 3 1 (r.map fun i=>[.v (.int .i64 i)])),(q,.arr 3 1 (ys.map fun i=>[.v (.int .i64 i)]))] :=
 zbC (enc:=fun i=>[.v (.int .i64 i)]) (fun _=>rfl) (Any2.slices_Insert_int_shift Tryz.insLaid) (Any2.slices_Insert_int_end_room Tryz.insLaid) (Any2.slices_Insert_int_end_grow Tryz.insLaid) (Any2.slices_Insert_int_grow Tryz.insLaid) rfl fu n q a xs i ys
end Go.Proofs.YtmfbghpealgaiaaGreatDoor
