/- Data of the program as values of Lean, and facts on its functions: printed by emit2.py. -/
import Derived.Test.YtoakfflcpcdbeaaDoorTab
import Derived.Test.YtoakfflcpcdbeaaDoorMapp
import Derived.Test.YtoakfflcpcdbeaaDoorTail
import Derived.Test.YtoakfflcpcdbeaaDoorBld
import Derived.Test.YtoakfflcpcdbeaaDoorLine
import Derived.Test.YtoakfflcpcdbeaaDoorKit
namespace Go.Proofs.YtoakfflcpcdbeaaDoor
open Go Go.Pw
structure Mark where
  Kind : Int
  Depth : Int
  Node : Int
  What : Int
  Err : Int
  Name : Bs
  Had : Bool
  Has : Bool
  Old : Bs
  New : Bs
  From : Int
  To : Int
  On : Bool
deriving DecidableEq
structure Tale_reader where
  s : Bs
  bad : Bool
deriving DecidableEq
structure Instarref24_Scan where
  S : Bs
  At : Int
  Bad : Bool
deriving DecidableEq
structure Unicode_Range16 where
  Lo : Int
  Hi : Int
  Stride : Int
deriving DecidableEq
structure Unicode_Range32 where
  Lo : Int
  Hi : Int
  Stride : Int
deriving DecidableEq
structure Errors_errorString where
  s : Bs
deriving DecidableEq
def cStr (x : Bs) : List PV := [.v (.string ⟨⟨x⟩⟩)]
theorem cStr_one (l : List Bs) : ∀ r ∈ l.map cStr, r.all cellP = true := by
  intro r hr
  obtain ⟨x, _, rfl⟩ := List.mem_map.1 hr
  rfl
def cInt_u8 (x : Int) : List PV := [.v (.int .u8 x)]
theorem cInt_u8_one (l : List Int) : ∀ r ∈ l.map cInt_u8, r.all cellP = true := by
  intro r hr
  obtain ⟨x, _, rfl⟩ := List.mem_map.1 hr
  rfl
def cInt_i64 (x : Int) : List PV := [.v (.int .i64 x)]
theorem cInt_i64_one (l : List Int) : ∀ r ∈ l.map cInt_i64, r.all cellP = true := by
  intro r hr
  obtain ⟨x, _, rfl⟩ := List.mem_map.1 hr
  rfl
def cBool (x : Bool) : List PV := [.v (.bool x)]
theorem cBool_one (l : List Bool) : ∀ r ∈ l.map cBool, r.all cellP = true := by
  intro r hr
  obtain ⟨x, _, rfl⟩ := List.mem_map.1 hr
  rfl
def cMark (x : Mark) : List PV := [.v (.int .i64 x.Kind), .v (.int .i64 x.Depth), .v (.int .i64 x.Node), .v (.int .i64 x.What), .v (.int .i64 x.Err), .v (.string ⟨⟨x.Name⟩⟩), .v (.bool x.Had), .v (.bool x.Has), .v (.string ⟨⟨x.Old⟩⟩), .v (.string ⟨⟨x.New⟩⟩), .v (.int .i64 x.From), .v (.int .i64 x.To), .v (.bool x.On)]
theorem cMark_one (l : List Mark) : ∀ r ∈ l.map cMark, r.all cellP = true := by
  intro r hr
  obtain ⟨x, _, rfl⟩ := List.mem_map.1 hr
  rfl
def cInstarref24_Scan (x : Instarref24_Scan) : List PV := [.v (.string ⟨⟨x.S⟩⟩), .v (.int .i64 x.At), .v (.bool x.Bad)]
theorem cInstarref24_Scan_one (l : List Instarref24_Scan) : ∀ r ∈ l.map cInstarref24_Scan, r.all cellP = true := by
  intro r hr
  obtain ⟨x, _, rfl⟩ := List.mem_map.1 hr
  rfl
def cInt_u16 (x : Int) : List PV := [.v (.int .u16 x)]
theorem cInt_u16_one (l : List Int) : ∀ r ∈ l.map cInt_u16, r.all cellP = true := by
  intro r hr
  obtain ⟨x, _, rfl⟩ := List.mem_map.1 hr
  rfl
def cUnicode_Range16 (x : Unicode_Range16) : List PV := [.v (.int .u16 x.Lo), .v (.int .u16 x.Hi), .v (.int .u16 x.Stride)]
theorem cUnicode_Range16_one (l : List Unicode_Range16) : ∀ r ∈ l.map cUnicode_Range16, r.all cellP = true := by
  intro r hr
  obtain ⟨x, _, rfl⟩ := List.mem_map.1 hr
  rfl
def cInt_u32 (x : Int) : List PV := [.v (.int .u32 x)]
theorem cInt_u32_one (l : List Int) : ∀ r ∈ l.map cInt_u32, r.all cellP = true := by
  intro r hr
  obtain ⟨x, _, rfl⟩ := List.mem_map.1 hr
  rfl
def cUnicode_Range32 (x : Unicode_Range32) : List PV := [.v (.int .u32 x.Lo), .v (.int .u32 x.Hi), .v (.int .u32 x.Stride)]
theorem cUnicode_Range32_one (l : List Unicode_Range32) : ∀ r ∈ l.map cUnicode_Range32, r.all cellP = true := by
  intro r hr
  obtain ⟨x, _, rfl⟩ := List.mem_map.1 hr
  rfl
def cTale_reader (x : Tale_reader) : List PV := [.v (.string ⟨⟨x.s⟩⟩), .v (.bool x.bad)]
theorem cTale_reader_one (l : List Tale_reader) : ∀ r ∈ l.map cTale_reader, r.all cellP = true := by
  intro r hr
  obtain ⟨x, _, rfl⟩ := List.mem_map.1 hr
  rfl
def cErrors_errorString (x : Errors_errorString) : List PV := [.v (.string ⟨⟨x.s⟩⟩)]
theorem cErrors_errorString_one (l : List Errors_errorString) : ∀ r ∈ l.map cErrors_errorString, r.all cellP = true := by
  intro r hr
  obtain ⟨x, _, rfl⟩ := List.mem_map.1 hr
  rfl
theorem mixed : Tryd.prog.follows .mixedOrders = true := by kernel_rfl
def eqMark (x y : Mark) : Bool := (x.Kind == y.Kind) && ((x.Depth == y.Depth) && ((x.Node == y.Node) && ((x.What == y.What) && ((x.Err == y.Err) && ((x.Name == y.Name) && ((x.Had == y.Had) && ((x.Has == y.Has) && ((x.Old == y.Old) && ((x.New == y.New) && ((x.From == y.From) && ((x.To == y.To) && ((x.On == y.On) && true))))))))))))
theorem eqf_29 : eqOf Tryd.prog 29 = some [(0, 3, .int .i64), (1, 3, .int .i64), (2, 3, .int .i64), (3, 3, .int .i64), (4, 25, .int .i64), (5, 9, .string), (6, 4, .bool), (7, 4, .bool), (8, 9, .string), (9, 9, .string), (10, 3, .int .i64), (11, 3, .int .i64), (12, 4, .bool)] := by kernel_rfl
theorem call2 : callable Tryd.prog 2 = true := by kernel_rfl
theorem call3 : callable Tryd.prog 3 = true := by kernel_rfl
theorem call4 : callable Tryd.prog 4 = true := by kernel_rfl
theorem call5 : callable Tryd.prog 5 = true := by kernel_rfl
theorem call6 : callable Tryd.prog 6 = true := by kernel_rfl
theorem call7 : callable Tryd.prog 7 = true := by kernel_rfl
theorem call8 : callable Tryd.prog 8 = true := by kernel_rfl
theorem call9 : callable Tryd.prog 9 = true := by kernel_rfl
theorem call10 : callable Tryd.prog 10 = true := by kernel_rfl
theorem call11 : callable Tryd.prog 11 = true := by kernel_rfl
theorem call12 : callable Tryd.prog 12 = true := by kernel_rfl
theorem call13 : callable Tryd.prog 13 = true := by kernel_rfl
theorem call14 : callable Tryd.prog 14 = true := by kernel_rfl
theorem call15 : callable Tryd.prog 15 = true := by kernel_rfl
theorem call16 : callable Tryd.prog 16 = true := by kernel_rfl
theorem call17 : callable Tryd.prog 17 = true := by kernel_rfl
theorem call18 : callable Tryd.prog 18 = true := by kernel_rfl
theorem call19 : callable Tryd.prog 19 = true := by kernel_rfl
theorem call20 : callable Tryd.prog 20 = true := by kernel_rfl
theorem call21 : callable Tryd.prog 21 = true := by kernel_rfl
theorem call22 : callable Tryd.prog 22 = true := by kernel_rfl
theorem call23 : callable Tryd.prog 23 = true := by kernel_rfl
theorem call24 : callable Tryd.prog 24 = true := by kernel_rfl
theorem call25 : callable Tryd.prog 25 = true := by kernel_rfl
theorem call26 : callable Tryd.prog 26 = true := by kernel_rfl
theorem call27 : callable Tryd.prog 27 = true := by kernel_rfl
theorem call28 : callable Tryd.prog 28 = true := by kernel_rfl
theorem call29 : callable Tryd.prog 29 = true := by kernel_rfl
theorem call30 : callable Tryd.prog 30 = true := by kernel_rfl
theorem call31 : callable Tryd.prog 31 = true := by kernel_rfl
theorem call32 : callable Tryd.prog 32 = true := by kernel_rfl
theorem call33 : callable Tryd.prog 33 = true := by kernel_rfl
theorem call34 : callable Tryd.prog 34 = true := by kernel_rfl
theorem call35 : callable Tryd.prog 35 = true := by kernel_rfl
theorem call36 : callable Tryd.prog 36 = true := by kernel_rfl
theorem call37 : callable Tryd.prog 37 = true := by kernel_rfl
theorem call38 : callable Tryd.prog 38 = true := by kernel_rfl
theorem call39 : callable Tryd.prog 39 = true := by kernel_rfl
theorem call40 : callable Tryd.prog 40 = true := by kernel_rfl
theorem call41 : callable Tryd.prog 41 = true := by kernel_rfl
theorem call42 : callable Tryd.prog 42 = true := by kernel_rfl
theorem call43 : callable Tryd.prog 43 = true := by kernel_rfl
theorem call44 : callable Tryd.prog 44 = true := by kernel_rfl
theorem call45 : callable Tryd.prog 45 = true := by kernel_rfl
theorem call47 : callable Tryd.prog 47 = true := by kernel_rfl
theorem call48 : callable Tryd.prog 48 = true := by kernel_rfl
theorem call49 : callable Tryd.prog 49 = true := by kernel_rfl
theorem call50 : callable Tryd.prog 50 = true := by kernel_rfl
theorem call51 : callable Tryd.prog 51 = true := by kernel_rfl
theorem call52 : callable Tryd.prog 52 = true := by kernel_rfl
theorem call53 : callable Tryd.prog 53 = true := by kernel_rfl
theorem call54 : callable Tryd.prog 54 = true := by kernel_rfl
theorem call55 : callable Tryd.prog 55 = true := by kernel_rfl
theorem call56 : callable Tryd.prog 56 = true := by kernel_rfl
theorem call57 : callable Tryd.prog 57 = true := by kernel_rfl
theorem call59 : callable Tryd.prog 59 = true := by kernel_rfl
theorem call60 : callable Tryd.prog 60 = true := by kernel_rfl
theorem call61 : callable Tryd.prog 61 = true := by kernel_rfl
theorem call62 : callable Tryd.prog 62 = true := by kernel_rfl
theorem call63 : callable Tryd.prog 63 = true := by kernel_rfl
theorem call64 : callable Tryd.prog 64 = true := by kernel_rfl
theorem call65 : callable Tryd.prog 65 = true := by kernel_rfl
theorem call66 : callable Tryd.prog 66 = true := by kernel_rfl
theorem call67 : callable Tryd.prog 67 = true := by kernel_rfl
theorem call68 : callable Tryd.prog 68 = true := by kernel_rfl
theorem call69 : callable Tryd.prog 69 = true := by kernel_rfl
theorem call70 : callable Tryd.prog 70 = true := by kernel_rfl
theorem call71 : callable Tryd.prog 71 = true := by kernel_rfl
theorem call72 : callable Tryd.prog 72 = true := by kernel_rfl
theorem call73 : callable Tryd.prog 73 = true := by kernel_rfl
theorem call74 : callable Tryd.prog 74 = true := by kernel_rfl
theorem call75 : callable Tryd.prog 75 = true := by kernel_rfl
theorem call76 : callable Tryd.prog 76 = true := by kernel_rfl
theorem call77 : callable Tryd.prog 77 = true := by kernel_rfl
theorem call78 : callable Tryd.prog 78 = true := by kernel_rfl
theorem call79 : callable Tryd.prog 79 = true := by kernel_rfl
theorem call80 : callable Tryd.prog 80 = true := by kernel_rfl
theorem call82 : callable Tryd.prog 82 = true := by kernel_rfl
theorem call83 : callable Tryd.prog 83 = true := by kernel_rfl
theorem call84 : callable Tryd.prog 84 = true := by kernel_rfl
theorem call85 : callable Tryd.prog 85 = true := by kernel_rfl
theorem call86 : callable Tryd.prog 86 = true := by kernel_rfl
theorem call87 : callable Tryd.prog 87 = true := by kernel_rfl
theorem call88 : callable Tryd.prog 88 = true := by kernel_rfl
theorem call89 : callable Tryd.prog 89 = true := by kernel_rfl
theorem call90 : callable Tryd.prog 90 = true := by kernel_rfl
theorem call91 : callable Tryd.prog 91 = true := by kernel_rfl
theorem call124 : callable Tryd.prog 124 = true := by kernel_rfl
end Go.Proofs.YtoakfflcpcdbeaaDoor
