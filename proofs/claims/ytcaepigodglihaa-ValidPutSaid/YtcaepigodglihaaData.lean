/- Data of the program as values of Lean, and facts on its functions: printed by emit2.py. -/
import Derived.Test.YtcaepigodglihaaTab
import Derived.Test.YtcaepigodglihaaMapp
import Derived.Test.YtcaepigodglihaaTail
import Derived.Test.YtcaepigodglihaaShContains
namespace Go.Proofs.Ytcaepigodglihaa
open Go Go.Pw
abbrev Bs := List UInt8
structure Attr where
  Name : Bs
  Value : Bs
deriving DecidableEq
structure Node where
  Kind : Int
  Name : Bs
  Is : Bs
  Data : Bs
  Attrs : (List Attr)
  Parent : Int
  Kids : (List Int)
  Host : Int
  Under : Int
  Doc : Int
deriving DecidableEq
structure Forest where
  Nodes : (List Node)
  Most : Int
deriving DecidableEq
structure Forest_view where
  Forest : Forest
deriving DecidableEq
structure Valid_place where
  Forest : Forest
  p : Int
  child : Int
  gone : Int
deriving DecidableEq
def cStr (x : Bs) : List PV := [.v (.string ⟨⟨x⟩⟩)]
theorem cStr_one (l : List Bs) : ∀ r ∈ l.map cStr, r.all cellP = true := by
  intro r hr
  obtain ⟨x, _, rfl⟩ := List.mem_map.1 hr
  rfl
def cAttr (x : Attr) : List PV := [.v (.string ⟨⟨x.Name⟩⟩), .v (.string ⟨⟨x.Value⟩⟩)]
theorem cAttr_one (l : List Attr) : ∀ r ∈ l.map cAttr, r.all cellP = true := by
  intro r hr
  obtain ⟨x, _, rfl⟩ := List.mem_map.1 hr
  rfl
def cInt_i64 (x : Int) : List PV := [.v (.int .i64 x)]
theorem cInt_i64_one (l : List Int) : ∀ r ∈ l.map cInt_i64, r.all cellP = true := by
  intro r hr
  obtain ⟨x, _, rfl⟩ := List.mem_map.1 hr
  rfl
def cL_Attr (x : (List Attr)) : List PV := [.sl 2 false (x.map cAttr)]
theorem cL_Attr_one (l : List (List Attr)) : ∀ r ∈ l.map cL_Attr, r.all cellP = true := by
  intro r hr
  obtain ⟨x, _, rfl⟩ := List.mem_map.1 hr
  rfl
def cL_Int_i64 (x : (List Int)) : List PV := [.sl 1 false (x.map cInt_i64)]
theorem cL_Int_i64_one (l : List (List Int)) : ∀ r ∈ l.map cL_Int_i64, r.all cellP = true := by
  intro r hr
  obtain ⟨x, _, rfl⟩ := List.mem_map.1 hr
  rfl
def cNode (x : Node) : List PV := [.v (.int .i64 x.Kind), .v (.string ⟨⟨x.Name⟩⟩), .v (.string ⟨⟨x.Is⟩⟩), .v (.string ⟨⟨x.Data⟩⟩), .sl 2 false (x.Attrs.map cAttr), .v (.int .i64 x.Parent), .sl 1 false (x.Kids.map cInt_i64), .v (.int .i64 x.Host), .v (.int .i64 x.Under), .v (.int .i64 x.Doc)]
theorem cNode_one (l : List Node) : ∀ r ∈ l.map cNode, r.all cellP = true := by
  intro r hr
  obtain ⟨x, _, rfl⟩ := List.mem_map.1 hr
  rfl
def cInt_u8 (x : Int) : List PV := [.v (.int .u8 x)]
theorem cInt_u8_one (l : List Int) : ∀ r ∈ l.map cInt_u8, r.all cellP = true := by
  intro r hr
  obtain ⟨x, _, rfl⟩ := List.mem_map.1 hr
  rfl
def cL_Node (x : (List Node)) : List PV := [.sl 10 false (x.map cNode)]
theorem cL_Node_one (l : List (List Node)) : ∀ r ∈ l.map cL_Node, r.all cellP = true := by
  intro r hr
  obtain ⟨x, _, rfl⟩ := List.mem_map.1 hr
  rfl
def cForest (x : Forest) : List PV := [.sl 10 false (x.Nodes.map cNode), .v (.int .i64 x.Most)]
theorem cForest_one (l : List Forest) : ∀ r ∈ l.map cForest, r.all cellP = true := by
  intro r hr
  obtain ⟨x, _, rfl⟩ := List.mem_map.1 hr
  rfl
def cForest_view (x : Forest_view) : List PV := [.sl 10 false (x.Forest.Nodes.map cNode), .v (.int .i64 x.Forest.Most)]
theorem cForest_view_one (l : List Forest_view) : ∀ r ∈ l.map cForest_view, r.all cellP = true := by
  intro r hr
  obtain ⟨x, _, rfl⟩ := List.mem_map.1 hr
  rfl
def cValid_place (x : Valid_place) : List PV := [.sl 10 false (x.Forest.Nodes.map cNode), .v (.int .i64 x.Forest.Most), .v (.int .i64 x.p), .v (.int .i64 x.child), .v (.int .i64 x.gone)]
theorem cValid_place_one (l : List Valid_place) : ∀ r ∈ l.map cValid_place, r.all cellP = true := by
  intro r hr
  obtain ⟨x, _, rfl⟩ := List.mem_map.1 hr
  rfl
def cBool (x : Bool) : List PV := [.v (.bool x)]
theorem cBool_one (l : List Bool) : ∀ r ∈ l.map cBool, r.all cellP = true := by
  intro r hr
  obtain ⟨x, _, rfl⟩ := List.mem_map.1 hr
  rfl
theorem mixed : Try.prog.follows .mixedOrders = true := by kernel_rfl
def eqAttr (x y : Attr) : Bool := (x.Name == y.Name) && ((x.Value == y.Value) && true)
theorem eqf_61 : eqOf Try.prog 61 = some [(0, 9, .string), (1, 9, .string)] := by kernel_rfl
def hasByte_m (_fu : Nat) (s : Bs) (c : UInt8) : Option Bool := some (decide (0 ≤ Lib.indexByte s c))
theorem hasByte_ok (fu : Nat) (s : Bs) (c : UInt8) : ∀ r, hasByte_m fu s c = some r → DC Try.prog 102 [.v (.string ⟨⟨s⟩⟩), .v (.string ⟨⟨[c]⟩⟩)] (.v (.bool r)) := by
  intro r hr
  cases hr
  exact dc_pure (us := [.string ⟨⟨s⟩⟩, .string ⟨⟨[c]⟩⟩]) rfl rfl (fun w => Try.strings_Contains_one ⟨⟨s⟩⟩ c w) rfl
theorem call2 : callable Try.prog 2 = true := by kernel_rfl
theorem call3 : callable Try.prog 3 = true := by kernel_rfl
theorem call4 : callable Try.prog 4 = true := by kernel_rfl
theorem call5 : callable Try.prog 5 = true := by kernel_rfl
theorem call6 : callable Try.prog 6 = true := by kernel_rfl
theorem call7 : callable Try.prog 7 = true := by kernel_rfl
theorem call8 : callable Try.prog 8 = true := by kernel_rfl
theorem call9 : callable Try.prog 9 = true := by kernel_rfl
theorem call10 : callable Try.prog 10 = true := by kernel_rfl
theorem call11 : callable Try.prog 11 = true := by kernel_rfl
theorem call12 : callable Try.prog 12 = true := by kernel_rfl
theorem call13 : callable Try.prog 13 = true := by kernel_rfl
theorem call14 : callable Try.prog 14 = true := by kernel_rfl
theorem call15 : callable Try.prog 15 = true := by kernel_rfl
theorem call16 : callable Try.prog 16 = true := by kernel_rfl
theorem call17 : callable Try.prog 17 = true := by kernel_rfl
theorem call18 : callable Try.prog 18 = true := by kernel_rfl
theorem call19 : callable Try.prog 19 = true := by kernel_rfl
theorem call20 : callable Try.prog 20 = true := by kernel_rfl
theorem call21 : callable Try.prog 21 = true := by kernel_rfl
theorem call22 : callable Try.prog 22 = true := by kernel_rfl
theorem call23 : callable Try.prog 23 = true := by kernel_rfl
theorem call24 : callable Try.prog 24 = true := by kernel_rfl
theorem call25 : callable Try.prog 25 = true := by kernel_rfl
theorem call26 : callable Try.prog 26 = true := by kernel_rfl
theorem call27 : callable Try.prog 27 = true := by kernel_rfl
theorem call28 : callable Try.prog 28 = true := by kernel_rfl
theorem call29 : callable Try.prog 29 = true := by kernel_rfl
theorem call30 : callable Try.prog 30 = true := by kernel_rfl
theorem call31 : callable Try.prog 31 = true := by kernel_rfl
theorem call32 : callable Try.prog 32 = true := by kernel_rfl
theorem call33 : callable Try.prog 33 = true := by kernel_rfl
theorem call34 : callable Try.prog 34 = true := by kernel_rfl
theorem call35 : callable Try.prog 35 = true := by kernel_rfl
theorem call36 : callable Try.prog 36 = true := by kernel_rfl
theorem call37 : callable Try.prog 37 = true := by kernel_rfl
theorem call38 : callable Try.prog 38 = true := by kernel_rfl
theorem call39 : callable Try.prog 39 = true := by kernel_rfl
theorem call40 : callable Try.prog 40 = true := by kernel_rfl
theorem call41 : callable Try.prog 41 = true := by kernel_rfl
theorem call42 : callable Try.prog 42 = true := by kernel_rfl
theorem call43 : callable Try.prog 43 = true := by kernel_rfl
theorem call44 : callable Try.prog 44 = true := by kernel_rfl
theorem call45 : callable Try.prog 45 = true := by kernel_rfl
theorem call46 : callable Try.prog 46 = true := by kernel_rfl
theorem call47 : callable Try.prog 47 = true := by kernel_rfl
theorem call48 : callable Try.prog 48 = true := by kernel_rfl
theorem call49 : callable Try.prog 49 = true := by kernel_rfl
theorem call50 : callable Try.prog 50 = true := by kernel_rfl
theorem call51 : callable Try.prog 51 = true := by kernel_rfl
theorem call52 : callable Try.prog 52 = true := by kernel_rfl
theorem call53 : callable Try.prog 53 = true := by kernel_rfl
theorem call54 : callable Try.prog 54 = true := by kernel_rfl
theorem call55 : callable Try.prog 55 = true := by kernel_rfl
theorem call56 : callable Try.prog 56 = true := by kernel_rfl
theorem call57 : callable Try.prog 57 = true := by kernel_rfl
theorem call58 : callable Try.prog 58 = true := by kernel_rfl
theorem call59 : callable Try.prog 59 = true := by kernel_rfl
theorem call60 : callable Try.prog 60 = true := by kernel_rfl
theorem call61 : callable Try.prog 61 = true := by kernel_rfl
theorem call62 : callable Try.prog 62 = true := by kernel_rfl
theorem call63 : callable Try.prog 63 = true := by kernel_rfl
theorem call64 : callable Try.prog 64 = true := by kernel_rfl
theorem call65 : callable Try.prog 65 = true := by kernel_rfl
theorem call66 : callable Try.prog 66 = true := by kernel_rfl
theorem call67 : callable Try.prog 67 = true := by kernel_rfl
theorem call68 : callable Try.prog 68 = true := by kernel_rfl
theorem call69 : callable Try.prog 69 = true := by kernel_rfl
theorem call70 : callable Try.prog 70 = true := by kernel_rfl
theorem call71 : callable Try.prog 71 = true := by kernel_rfl
theorem call72 : callable Try.prog 72 = true := by kernel_rfl
theorem call73 : callable Try.prog 73 = true := by kernel_rfl
theorem call74 : callable Try.prog 74 = true := by kernel_rfl
theorem call75 : callable Try.prog 75 = true := by kernel_rfl
theorem call76 : callable Try.prog 76 = true := by kernel_rfl
theorem call77 : callable Try.prog 77 = true := by kernel_rfl
theorem call78 : callable Try.prog 78 = true := by kernel_rfl
theorem call79 : callable Try.prog 79 = true := by kernel_rfl
theorem call80 : callable Try.prog 80 = true := by kernel_rfl
theorem call81 : callable Try.prog 81 = true := by kernel_rfl
theorem call82 : callable Try.prog 82 = true := by kernel_rfl
theorem call83 : callable Try.prog 83 = true := by kernel_rfl
theorem call84 : callable Try.prog 84 = true := by kernel_rfl
theorem call85 : callable Try.prog 85 = true := by kernel_rfl
theorem call86 : callable Try.prog 86 = true := by kernel_rfl
theorem call87 : callable Try.prog 87 = true := by kernel_rfl
theorem call88 : callable Try.prog 88 = true := by kernel_rfl
theorem call89 : callable Try.prog 89 = true := by kernel_rfl
theorem call90 : callable Try.prog 90 = true := by kernel_rfl
theorem call91 : callable Try.prog 91 = true := by kernel_rfl
theorem call92 : callable Try.prog 92 = true := by kernel_rfl
theorem call93 : callable Try.prog 93 = true := by kernel_rfl
theorem call94 : callable Try.prog 94 = true := by kernel_rfl
theorem call95 : callable Try.prog 95 = true := by kernel_rfl
theorem call96 : callable Try.prog 96 = true := by kernel_rfl
theorem call97 : callable Try.prog 97 = true := by kernel_rfl
theorem call98 : callable Try.prog 98 = true := by kernel_rfl
theorem call99 : callable Try.prog 99 = true := by kernel_rfl
theorem call100 : callable Try.prog 100 = true := by kernel_rfl
theorem call101 : callable Try.prog 101 = true := by kernel_rfl
theorem call102 : callable Try.prog 102 = true := by kernel_rfl
theorem call103 : callable Try.prog 103 = true := by kernel_rfl
theorem call104 : callable Try.prog 104 = true := by kernel_rfl
theorem call105 : callable Try.prog 105 = true := by kernel_rfl
theorem call106 : callable Try.prog 106 = true := by kernel_rfl
theorem call107 : callable Try.prog 107 = true := by kernel_rfl
theorem call108 : callable Try.prog 108 = true := by kernel_rfl
theorem call109 : callable Try.prog 109 = true := by kernel_rfl
theorem call110 : callable Try.prog 110 = true := by kernel_rfl
theorem call111 : callable Try.prog 111 = true := by kernel_rfl
theorem call112 : callable Try.prog 112 = true := by kernel_rfl
theorem call113 : callable Try.prog 113 = true := by kernel_rfl
theorem call114 : callable Try.prog 114 = true := by kernel_rfl
theorem call115 : callable Try.prog 115 = true := by kernel_rfl
theorem call116 : callable Try.prog 116 = true := by kernel_rfl
theorem call117 : callable Try.prog 117 = true := by kernel_rfl
theorem call118 : callable Try.prog 118 = true := by kernel_rfl
theorem call119 : callable Try.prog 119 = true := by kernel_rfl
theorem call120 : callable Try.prog 120 = true := by kernel_rfl
theorem call121 : callable Try.prog 121 = true := by kernel_rfl
theorem call122 : callable Try.prog 122 = true := by kernel_rfl
theorem call123 : callable Try.prog 123 = true := by kernel_rfl
theorem call124 : callable Try.prog 124 = true := by kernel_rfl
theorem call125 : callable Try.prog 125 = true := by kernel_rfl
theorem call127 : callable Try.prog 127 = true := by kernel_rfl
theorem call128 : callable Try.prog 128 = true := by kernel_rfl
theorem call130 : callable Try.prog 130 = true := by kernel_rfl
end Go.Proofs.Ytcaepigodglihaa
