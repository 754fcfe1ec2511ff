/- Data of the program as values of Lean, and facts on its functions: printed by emit2.py. -/
import Derived.Test.YtkngnghbnhgfjaaGreatTab
import Derived.Test.YtkngnghbnhgfjaaGreatMapp
import Derived.Test.YtkngnghbnhgfjaaGreatTail
import Derived.Test.YtkngnghbnhgfjaaGreatRne
import Derived.Test.YtkngnghbnhgfjaaGreatBld
import Derived.Test.YtkngnghbnhgfjaaGreatKit
import Derived.Test.YtkngnghbnhgfjaaGreatShContains
namespace Go.Proofs.YtkngnghbnhgfjaaGreat
open Go Go.Pw
structure Attr where
  Name : Bs
  Value : Bs
deriving DecidableEq
structure Node where
  Kind : Int
  Name : Bs
  Is : Bs
  Data : Bs
  Attrs : (List Attr)
  Parent : Int
  Kids : (List Int)
  Host : Int
  Under : Int
  Doc : Int
deriving DecidableEq
structure Forest where
  Nodes : (List Node)
  Most : Int
deriving DecidableEq
structure Forest_view where
  Forest : Forest
deriving DecidableEq
structure Print_reader where
  f : Forest
  doc : Int
  s : Bs
  bad : Bool
deriving DecidableEq
def cInt_i64 (x : Int) : List PV := [.v (.int .i64 x)]
theorem cInt_i64_one (l : List Int) : ∀ r ∈ l.map cInt_i64, r.all cellP = true := by
  intro r hr
  obtain ⟨x, _, rfl⟩ := List.mem_map.1 hr
  rfl
def cStr (x : Bs) : List PV := [.v (.string ⟨⟨x⟩⟩)]
def cAttr (x : Attr) : List PV := [.v (.string ⟨⟨x.Name⟩⟩), .v (.string ⟨⟨x.Value⟩⟩)]
theorem cAttr_one (l : List Attr) : ∀ r ∈ l.map cAttr, r.all cellP = true := by
  intro r hr
  obtain ⟨x, _, rfl⟩ := List.mem_map.1 hr
  rfl
def cNode (x : Node) : List PV := [.v (.int .i64 x.Kind), .v (.string ⟨⟨x.Name⟩⟩), .v (.string ⟨⟨x.Is⟩⟩), .v (.string ⟨⟨x.Data⟩⟩), .sl 2 false (x.Attrs.map cAttr), .v (.int .i64 x.Parent), .sl 1 false (x.Kids.map cInt_i64), .v (.int .i64 x.Host), .v (.int .i64 x.Under), .v (.int .i64 x.Doc)]
theorem cNode_one (l : List Node) : ∀ r ∈ l.map cNode, r.all cellP = true := by
  intro r hr
  obtain ⟨x, _, rfl⟩ := List.mem_map.1 hr
  rfl
def cForest (x : Forest) : List PV := [.sl 10 false (x.Nodes.map cNode), .v (.int .i64 x.Most)]
def cInt_u8 (x : Int) : List PV := [.v (.int .u8 x)]
theorem cInt_u8_one (l : List Int) : ∀ r ∈ l.map cInt_u8, r.all cellP = true := by
  intro r hr
  obtain ⟨x, _, rfl⟩ := List.mem_map.1 hr
  rfl
def cForest_view (x : Forest_view) : List PV := [.sl 10 false (x.Forest.Nodes.map cNode), .v (.int .i64 x.Forest.Most)]
theorem mixed : Tryz.prog.follows .mixedOrders = true := by kernel_rfl
def eqAttr (x y : Attr) : Bool := (x.Name == y.Name) && ((x.Value == y.Value) && true)
theorem eqf_42 : eqOf Tryz.prog 42 = some [(0, 9, .string), (1, 9, .string)] := by kernel_rfl
def hasByte_m (_fu : Nat) (s : Bs) (c : UInt8) : Option Bool := some (decide (0 ≤ Lib.indexByte s c))
theorem hasByte_ok (fu : Nat) (s : Bs) (c : UInt8) : ∀ r, hasByte_m fu s c = some r → DC laidL Tryz.prog 83 [.v (.string ⟨⟨s⟩⟩), .v (.string ⟨⟨[c]⟩⟩)] (.v (.bool r)) := by
  intro r hr
  cases hr
  exact dc_pure (us := [.string ⟨⟨s⟩⟩, .string ⟨⟨[c]⟩⟩]) rfl rfl (fun w => Tryz.strings_Contains_one ⟨⟨s⟩⟩ c w) rfl
theorem call6 : callable Tryz.prog 6 = true := by kernel_rfl
theorem call7 : callable Tryz.prog 7 = true := by kernel_rfl
theorem call8 : callable Tryz.prog 8 = true := by kernel_rfl
theorem call9 : callable Tryz.prog 9 = true := by kernel_rfl
theorem call11 : callable Tryz.prog 11 = true := by kernel_rfl
theorem call13 : callable Tryz.prog 13 = true := by kernel_rfl
theorem call14 : callable Tryz.prog 14 = true := by kernel_rfl
theorem call15 : callable Tryz.prog 15 = true := by kernel_rfl
theorem call16 : callable Tryz.prog 16 = true := by kernel_rfl
theorem call17 : callable Tryz.prog 17 = true := by kernel_rfl
theorem call18 : callable Tryz.prog 18 = true := by kernel_rfl
theorem call19 : callable Tryz.prog 19 = true := by kernel_rfl
theorem call20 : callable Tryz.prog 20 = true := by kernel_rfl
theorem call21 : callable Tryz.prog 21 = true := by kernel_rfl
theorem call26 : callable Tryz.prog 26 = true := by kernel_rfl
theorem call27 : callable Tryz.prog 27 = true := by kernel_rfl
theorem call28 : callable Tryz.prog 28 = true := by kernel_rfl
theorem call29 : callable Tryz.prog 29 = true := by kernel_rfl
theorem call30 : callable Tryz.prog 30 = true := by kernel_rfl
theorem call31 : callable Tryz.prog 31 = true := by kernel_rfl
theorem call32 : callable Tryz.prog 32 = true := by kernel_rfl
theorem call33 : callable Tryz.prog 33 = true := by kernel_rfl
theorem call34 : callable Tryz.prog 34 = true := by kernel_rfl
theorem call35 : callable Tryz.prog 35 = true := by kernel_rfl
theorem call36 : callable Tryz.prog 36 = true := by kernel_rfl
theorem call37 : callable Tryz.prog 37 = true := by kernel_rfl
theorem call38 : callable Tryz.prog 38 = true := by kernel_rfl
theorem call39 : callable Tryz.prog 39 = true := by kernel_rfl
theorem call40 : callable Tryz.prog 40 = true := by kernel_rfl
theorem call41 : callable Tryz.prog 41 = true := by kernel_rfl
theorem call42 : callable Tryz.prog 42 = true := by kernel_rfl
theorem call43 : callable Tryz.prog 43 = true := by kernel_rfl
theorem call44 : callable Tryz.prog 44 = true := by kernel_rfl
theorem call45 : callable Tryz.prog 45 = true := by kernel_rfl
theorem call46 : callable Tryz.prog 46 = true := by kernel_rfl
theorem call49 : callable Tryz.prog 49 = true := by kernel_rfl
theorem call50 : callable Tryz.prog 50 = true := by kernel_rfl
theorem call51 : callable Tryz.prog 51 = true := by kernel_rfl
theorem call52 : callable Tryz.prog 52 = true := by kernel_rfl
theorem call53 : callable Tryz.prog 53 = true := by kernel_rfl
theorem call54 : callable Tryz.prog 54 = true := by kernel_rfl
theorem call55 : callable Tryz.prog 55 = true := by kernel_rfl
theorem call56 : callable Tryz.prog 56 = true := by kernel_rfl
theorem call57 : callable Tryz.prog 57 = true := by kernel_rfl
theorem call58 : callable Tryz.prog 58 = true := by kernel_rfl
theorem call59 : callable Tryz.prog 59 = true := by kernel_rfl
theorem call60 : callable Tryz.prog 60 = true := by kernel_rfl
theorem call61 : callable Tryz.prog 61 = true := by kernel_rfl
theorem call62 : callable Tryz.prog 62 = true := by kernel_rfl
theorem call63 : callable Tryz.prog 63 = true := by kernel_rfl
theorem call64 : callable Tryz.prog 64 = true := by kernel_rfl
theorem call65 : callable Tryz.prog 65 = true := by kernel_rfl
theorem call66 : callable Tryz.prog 66 = true := by kernel_rfl
theorem call67 : callable Tryz.prog 67 = true := by kernel_rfl
theorem call68 : callable Tryz.prog 68 = true := by kernel_rfl
theorem call69 : callable Tryz.prog 69 = true := by kernel_rfl
theorem call73 : callable Tryz.prog 73 = true := by kernel_rfl
theorem call74 : callable Tryz.prog 74 = true := by kernel_rfl
theorem call75 : callable Tryz.prog 75 = true := by kernel_rfl
theorem call76 : callable Tryz.prog 76 = true := by kernel_rfl
theorem call77 : callable Tryz.prog 77 = true := by kernel_rfl
theorem call78 : callable Tryz.prog 78 = true := by kernel_rfl
theorem call79 : callable Tryz.prog 79 = true := by kernel_rfl
theorem call80 : callable Tryz.prog 80 = true := by kernel_rfl
theorem call81 : callable Tryz.prog 81 = true := by kernel_rfl
theorem call82 : callable Tryz.prog 82 = true := by kernel_rfl
theorem call83 : callable Tryz.prog 83 = true := by kernel_rfl
theorem call84 : callable Tryz.prog 84 = true := by kernel_rfl
theorem call85 : callable Tryz.prog 85 = true := by kernel_rfl
theorem call86 : callable Tryz.prog 86 = true := by kernel_rfl
theorem call87 : callable Tryz.prog 87 = true := by kernel_rfl
theorem call88 : callable Tryz.prog 88 = true := by kernel_rfl
theorem call89 : callable Tryz.prog 89 = true := by kernel_rfl
theorem call90 : callable Tryz.prog 90 = true := by kernel_rfl
theorem call98 : callable Tryz.prog 98 = true := by kernel_rfl
theorem call99 : callable Tryz.prog 99 = true := by kernel_rfl
theorem call100 : callable Tryz.prog 100 = true := by kernel_rfl
theorem call102 : callable Tryz.prog 102 = true := by kernel_rfl
theorem call103 : callable Tryz.prog 103 = true := by kernel_rfl
theorem call104 : callable Tryz.prog 104 = true := by kernel_rfl
end Go.Proofs.YtkngnghbnhgfjaaGreat
