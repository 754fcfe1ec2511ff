/- Data of the program as values of Lean, and facts on its functions: printed by emit2.py. -/
import Derived.Test.YtkngnghbnhgfjaaGreatTab
import Derived.Test.YtkngnghbnhgfjaaGreatMapp
import Derived.Test.YtkngnghbnhgfjaaGreatTail
import Derived.Test.YtkngnghbnhgfjaaGreatRne
import Derived.Test.YtkngnghbnhgfjaaGreatBld
import Derived.Test.YtkngnghbnhgfjaaGreatKit
import Derived.Test.YtkngnghbnhgfjaaGreatShContains
namespace Go.Proofs.YtkngnghbnhgfjaaGreat
open Go Go.Pw
structure Attr where
  Name : Bs
  Value : Bs
deriving DecidableEq
structure Node where
  Kind : Int
  Name : Bs
  Is : Bs
  Data : Bs
  Attrs : (List Attr)
  Parent : Int
  Kids : (List Int)
  Host : Int
  Under : Int
  Doc : Int
deriving DecidableEq
structure Forest where
  Nodes : (List Node)
  Most : Int
deriving DecidableEq
structure Forest_view where
  Forest : Forest
deriving DecidableEq
structure Print_reader where
  f : Forest
  doc : Int
  s : Bs
  bad : Bool
deriving DecidableEq
def cInt_i64 (x : Int) : List PV := [.v (.int .i64 x)]
theorem cInt_i64_one (l : List Int) : ∀ r ∈ l.map cInt_i64, r.all cellP = true := by
  intro r hr
  obtain ⟨x, _, rfl⟩ := List.mem_map.1 hr
  rfl
def cStr (x : Bs) : List PV := [.v (.string ⟨⟨x⟩⟩)]
theorem cStr_one (l : List Bs) : ∀ r ∈ l.map cStr, r.all cellP = true := by
  intro r hr
  obtain ⟨x, _, rfl⟩ := List.mem_map.1 hr
  rfl
def cAttr (x : Attr) : List PV := [.v (.string ⟨⟨x.Name⟩⟩), .v (.string ⟨⟨x.Value⟩⟩)]
theorem cAttr_one (l : List Attr) : ∀ r ∈ l.map cAttr, r.all cellP = true := by
  intro r hr
  obtain ⟨x, _, rfl⟩ := List.mem_map.1 hr
  rfl
def cL_Attr (x : (List Attr)) : List PV := [.sl 2 false (x.map cAttr)]
theorem cL_Attr_one (l : List (List Attr)) : ∀ r ∈ l.map cL_Attr, r.all cellP = true := by
  intro r hr
  obtain ⟨x, _, rfl⟩ := List.mem_map.1 hr
  rfl
def cL_Int_i64 (x : (List Int)) : List PV := [.sl 1 false (x.map cInt_i64)]
theorem cL_Int_i64_one (l : List (List Int)) : ∀ r ∈ l.map cL_Int_i64, r.all cellP = true := by
  intro r hr
  obtain ⟨x, _, rfl⟩ := List.mem_map.1 hr
  rfl
def cNode (x : Node) : List PV := [.v (.int .i64 x.Kind), .v (.string ⟨⟨x.Name⟩⟩), .v (.string ⟨⟨x.Is⟩⟩), .v (.string ⟨⟨x.Data⟩⟩), .sl 2 false (x.Attrs.map cAttr), .v (.int .i64 x.Parent), .sl 1 false (x.Kids.map cInt_i64), .v (.int .i64 x.Host), .v (.int .i64 x.Under), .v (.int .i64 x.Doc)]
theorem cNode_one (l : List Node) : ∀ r ∈ l.map cNode, r.all cellP = true := by
  intro r hr
  obtain ⟨x, _, rfl⟩ := List.mem_map.1 hr
  rfl
def cL_Node (x : (List Node)) : List PV := [.sl 10 false (x.map cNode)]
theorem cL_Node_one (l : List (List Node)) : ∀ r ∈ l.map cL_Node, r.all cellP = true := by
  intro r hr
  obtain ⟨x, _, rfl⟩ := List.mem_map.1 hr
  rfl
def cForest (x : Forest) : List PV := [.sl 10 false (x.Nodes.map cNode), .v (.int .i64 x.Most)]
theorem cForest_one (l : List Forest) : ∀ r ∈ l.map cForest, r.all cellP = true := by
  intro r hr
  obtain ⟨x, _, rfl⟩ := List.mem_map.1 hr
  rfl
def cInt_u16 (x : Int) : List PV := [.v (.int .u16 x)]
theorem cInt_u16_one (l : List Int) : ∀ r ∈ l.map cInt_u16, r.all cellP = true := by
  intro r hr
  obtain ⟨x, _, rfl⟩ := List.mem_map.1 hr
  rfl
def cInt_u8 (x : Int) : List PV := [.v (.int .u8 x)]
theorem cInt_u8_one (l : List Int) : ∀ r ∈ l.map cInt_u8, r.all cellP = true := by
  intro r hr
  obtain ⟨x, _, rfl⟩ := List.mem_map.1 hr
  rfl
def cForest_view (x : Forest_view) : List PV := [.sl 10 false (x.Forest.Nodes.map cNode), .v (.int .i64 x.Forest.Most)]
theorem cForest_view_one (l : List Forest_view) : ∀ r ∈ l.map cForest_view, r.all cellP = true := by
  intro r hr
  obtain ⟨x, _, rfl⟩ := List.mem_map.1 hr
  rfl
def cBool (x : Bool) : List PV := [.v (.bool x)]
theorem cBool_one (l : List Bool) : ∀ r ∈ l.map cBool, r.all cellP = true := by
  intro r hr
  obtain ⟨x, _, rfl⟩ := List.mem_map.1 hr
  rfl
def cPrint_reader (x : Print_reader) : List PV := [.sl 10 false (x.f.Nodes.map cNode), .v (.int .i64 x.f.Most), .v (.int .i64 x.doc), .v (.string ⟨⟨x.s⟩⟩), .v (.bool x.bad)]
theorem cPrint_reader_one (l : List Print_reader) : ∀ r ∈ l.map cPrint_reader, r.all cellP = true := by
  intro r hr
  obtain ⟨x, _, rfl⟩ := List.mem_map.1 hr
  rfl
theorem mixed : Tryz.prog.follows .mixedOrders = true := by kernel_rfl
def eqAttr (x y : Attr) : Bool := (x.Name == y.Name) && ((x.Value == y.Value) && true)
theorem eqf_42 : eqOf Tryz.prog 42 = some [(0, 9, .string), (1, 9, .string)] := by kernel_rfl
def hasByte_m (_fu : Nat) (s : Bs) (c : UInt8) : Option Bool := some (decide (0 ≤ Lib.indexByte s c))
theorem hasByte_ok (fu : Nat) (s : Bs) (c : UInt8) : ∀ r, hasByte_m fu s c = some r → DC laidL Tryz.prog 83 [.v (.string ⟨⟨s⟩⟩), .v (.string ⟨⟨[c]⟩⟩)] (.v (.bool r)) := by
  intro r hr
  cases hr
  exact dc_pure (us := [.string ⟨⟨s⟩⟩, .string ⟨⟨[c]⟩⟩]) rfl rfl (fun w => Tryz.strings_Contains_one ⟨⟨s⟩⟩ c w) rfl
theorem call2 : callable Tryz.prog 2 = true := by kernel_rfl
theorem call3 : callable Tryz.prog 3 = true := by kernel_rfl
theorem call4 : callable Tryz.prog 4 = true := by kernel_rfl
theorem call5 : callable Tryz.prog 5 = true := by kernel_rfl
theorem call6 : callable Tryz.prog 6 = true := by kernel_rfl
theorem call7 : callable Tryz.prog 7 = true := by kernel_rfl
theorem call8 : callable Tryz.prog 8 = true := by kernel_rfl
theorem call9 : callable Tryz.prog 9 = true := by kernel_rfl
theorem call10 : callable Tryz.prog 10 = true := by kernel_rfl
theorem call11 : callable Tryz.prog 11 = true := by kernel_rfl
theorem call12 : callable Tryz.prog 12 = true := by kernel_rfl
theorem call13 : callable Tryz.prog 13 = true := by kernel_rfl
theorem call14 : callable Tryz.prog 14 = true := by kernel_rfl
theorem call15 : callable Tryz.prog 15 = true := by kernel_rfl
theorem call16 : callable Tryz.prog 16 = true := by kernel_rfl
theorem call17 : callable Tryz.prog 17 = true := by kernel_rfl
theorem call18 : callable Tryz.prog 18 = true := by kernel_rfl
theorem call19 : callable Tryz.prog 19 = true := by kernel_rfl
theorem call20 : callable Tryz.prog 20 = true := by kernel_rfl
theorem call21 : callable Tryz.prog 21 = true := by kernel_rfl
theorem call22 : callable Tryz.prog 22 = true := by kernel_rfl
theorem call23 : callable Tryz.prog 23 = true := by kernel_rfl
theorem call24 : callable Tryz.prog 24 = true := by kernel_rfl
theorem call25 : callable Tryz.prog 25 = true := by kernel_rfl
theorem call26 : callable Tryz.prog 26 = true := by kernel_rfl
theorem call27 : callable Tryz.prog 27 = true := by kernel_rfl
theorem call28 : callable Tryz.prog 28 = true := by kernel_rfl
theorem call29 : callable Tryz.prog 29 = true := by kernel_rfl
theorem call30 : callable Tryz.prog 30 = true := by kernel_rfl
theorem call31 : callable Tryz.prog 31 = true := by kernel_rfl
theorem call32 : callable Tryz.prog 32 = true := by kernel_rfl
theorem call33 : callable Tryz.prog 33 = true := by kernel_rfl
theorem call34 : callable Tryz.prog 34 = true := by kernel_rfl
theorem call35 : callable Tryz.prog 35 = true := by kernel_rfl
theorem call36 : callable Tryz.prog 36 = true := by kernel_rfl
theorem call37 : callable Tryz.prog 37 = true := by kernel_rfl
theorem call38 : callable Tryz.prog 38 = true := by kernel_rfl
theorem call39 : callable Tryz.prog 39 = true := by kernel_rfl
theorem call40 : callable Tryz.prog 40 = true := by kernel_rfl
theorem call41 : callable Tryz.prog 41 = true := by kernel_rfl
theorem call42 : callable Tryz.prog 42 = true := by kernel_rfl
theorem call43 : callable Tryz.prog 43 = true := by kernel_rfl
theorem call44 : callable Tryz.prog 44 = true := by kernel_rfl
theorem call45 : callable Tryz.prog 45 = true := by kernel_rfl
theorem call46 : callable Tryz.prog 46 = true := by kernel_rfl
theorem call47 : callable Tryz.prog 47 = true := by kernel_rfl
theorem call48 : callable Tryz.prog 48 = true := by kernel_rfl
theorem call49 : callable Tryz.prog 49 = true := by kernel_rfl
theorem call50 : callable Tryz.prog 50 = true := by kernel_rfl
theorem call51 : callable Tryz.prog 51 = true := by kernel_rfl
theorem call52 : callable Tryz.prog 52 = true := by kernel_rfl
theorem call53 : callable Tryz.prog 53 = true := by kernel_rfl
theorem call54 : callable Tryz.prog 54 = true := by kernel_rfl
theorem call55 : callable Tryz.prog 55 = true := by kernel_rfl
theorem call56 : callable Tryz.prog 56 = true := by kernel_rfl
theorem call57 : callable Tryz.prog 57 = true := by kernel_rfl
theorem call58 : callable Tryz.prog 58 = true := by kernel_rfl
theorem call59 : callable Tryz.prog 59 = true := by kernel_rfl
theorem call60 : callable Tryz.prog 60 = true := by kernel_rfl
theorem call61 : callable Tryz.prog 61 = true := by kernel_rfl
theorem call62 : callable Tryz.prog 62 = true := by kernel_rfl
theorem call63 : callable Tryz.prog 63 = true := by kernel_rfl
theorem call64 : callable Tryz.prog 64 = true := by kernel_rfl
theorem call65 : callable Tryz.prog 65 = true := by kernel_rfl
theorem call66 : callable Tryz.prog 66 = true := by kernel_rfl
theorem call67 : callable Tryz.prog 67 = true := by kernel_rfl
theorem call68 : callable Tryz.prog 68 = true := by kernel_rfl
theorem call69 : callable Tryz.prog 69 = true := by kernel_rfl
theorem call70 : callable Tryz.prog 70 = true := by kernel_rfl
theorem call71 : callable Tryz.prog 71 = true := by kernel_rfl
theorem call72 : callable Tryz.prog 72 = true := by kernel_rfl
theorem call73 : callable Tryz.prog 73 = true := by kernel_rfl
theorem call74 : callable Tryz.prog 74 = true := by kernel_rfl
theorem call75 : callable Tryz.prog 75 = true := by kernel_rfl
theorem call76 : callable Tryz.prog 76 = true := by kernel_rfl
theorem call77 : callable Tryz.prog 77 = true := by kernel_rfl
theorem call78 : callable Tryz.prog 78 = true := by kernel_rfl
theorem call79 : callable Tryz.prog 79 = true := by kernel_rfl
theorem call80 : callable Tryz.prog 80 = true := by kernel_rfl
theorem call81 : callable Tryz.prog 81 = true := by kernel_rfl
theorem call82 : callable Tryz.prog 82 = true := by kernel_rfl
theorem call83 : callable Tryz.prog 83 = true := by kernel_rfl
theorem call84 : callable Tryz.prog 84 = true := by kernel_rfl
theorem call85 : callable Tryz.prog 85 = true := by kernel_rfl
theorem call86 : callable Tryz.prog 86 = true := by kernel_rfl
theorem call87 : callable Tryz.prog 87 = true := by kernel_rfl
theorem call88 : callable Tryz.prog 88 = true := by kernel_rfl
theorem call89 : callable Tryz.prog 89 = true := by kernel_rfl
theorem call90 : callable Tryz.prog 90 = true := by kernel_rfl
theorem call93 : callable Tryz.prog 93 = true := by kernel_rfl
theorem call94 : callable Tryz.prog 94 = true := by kernel_rfl
theorem call95 : callable Tryz.prog 95 = true := by kernel_rfl
theorem call96 : callable Tryz.prog 96 = true := by kernel_rfl
theorem call97 : callable Tryz.prog 97 = true := by kernel_rfl
theorem call98 : callable Tryz.prog 98 = true := by kernel_rfl
theorem call99 : callable Tryz.prog 99 = true := by kernel_rfl
theorem call100 : callable Tryz.prog 100 = true := by kernel_rfl
theorem call101 : callable Tryz.prog 101 = true := by kernel_rfl
theorem call102 : callable Tryz.prog 102 = true := by kernel_rfl
theorem call103 : callable Tryz.prog 103 = true := by kernel_rfl
theorem call104 : callable Tryz.prog 104 = true := by kernel_rfl
theorem call105 : callable Tryz.prog 105 = true := by kernel_rfl
theorem call106 : callable Tryz.prog 106 = true := by kernel_rfl
theorem call108 : callable Tryz.prog 108 = true := by kernel_rfl
theorem call109 : callable Tryz.prog 109 = true := by kernel_rfl
theorem call110 : callable Tryz.prog 110 = true := by kernel_rfl
theorem call111 : callable Tryz.prog 111 = true := by kernel_rfl
theorem call116 : callable Tryz.prog 116 = true := by kernel_rfl
theorem call119 : callable Tryz.prog 119 = true := by kernel_rfl
theorem call120 : callable Tryz.prog 120 = true := by kernel_rfl
theorem call121 : callable Tryz.prog 121 = true := by kernel_rfl
theorem call122 : callable Tryz.prog 122 = true := by kernel_rfl
theorem call124 : callable Tryz.prog 124 = true := by kernel_rfl
theorem call125 : callable Tryz.prog 125 = true := by kernel_rfl
theorem call134 : callable Tryz.prog 134 = true := by kernel_rfl
theorem call151 : callable Tryz.prog 151 = true := by kernel_rfl
theorem call152 : callable Tryz.prog 152 = true := by kernel_rfl
theorem call153 : callable Tryz.prog 153 = true := by kernel_rfl
theorem call154 : callable Tryz.prog 154 = true := by kernel_rfl
theorem call155 : callable Tryz.prog 155 = true := by kernel_rfl
theorem call157 : callable Tryz.prog 157 = true := by kernel_rfl
theorem call158 : callable Tryz.prog 158 = true := by kernel_rfl
theorem call159 : callable Tryz.prog 159 = true := by kernel_rfl
theorem call160 : callable Tryz.prog 160 = true := by kernel_rfl
theorem call161 : callable Tryz.prog 161 = true := by kernel_rfl
theorem call162 : callable Tryz.prog 162 = true := by kernel_rfl
theorem call163 : callable Tryz.prog 163 = true := by kernel_rfl
theorem call164 : callable Tryz.prog 164 = true := by kernel_rfl
theorem call165 : callable Tryz.prog 165 = true := by kernel_rfl
theorem call166 : callable Tryz.prog 166 = true := by kernel_rfl
theorem call169 : callable Tryz.prog 169 = true := by kernel_rfl
theorem call170 : callable Tryz.prog 170 = true := by kernel_rfl
theorem call171 : callable Tryz.prog 171 = true := by kernel_rfl
theorem call172 : callable Tryz.prog 172 = true := by kernel_rfl
theorem call173 : callable Tryz.prog 173 = true := by kernel_rfl
end Go.Proofs.YtkngnghbnhgfjaaGreat
