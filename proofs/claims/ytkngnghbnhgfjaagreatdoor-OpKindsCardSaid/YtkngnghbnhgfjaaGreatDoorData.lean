/- Data of the program as values of Lean, and facts on its functions: printed by emit2.py. -/
import Derived.Test.YtkngnghbnhgfjaaGreatDoorTab
import Derived.Test.YtkngnghbnhgfjaaGreatDoorMapp
import Derived.Test.YtkngnghbnhgfjaaGreatDoorTail
import Derived.Test.YtkngnghbnhgfjaaGreatDoorBld
import Derived.Test.YtkngnghbnhgfjaaGreatDoorUnr
import Derived.Test.YtkngnghbnhgfjaaGreatDoorKit
namespace Go.Proofs.YtkngnghbnhgfjaaGreatDoor
open Go Go.Pw
structure Op where
  Kind : Int
  A : Int
  B : Int
  C : Int
  S : Bs
  T : Bs
  Must : Bool
deriving DecidableEq
structure Op_form where
  word : Bs
  fields : Bs
deriving DecidableEq
structure Unicode_Range16 where
  Lo : Int
  Hi : Int
  Stride : Int
deriving DecidableEq
structure Unicode_Range32 where
  Lo : Int
  Hi : Int
  Stride : Int
deriving DecidableEq
structure Errors_errorString where
  s : Bs
deriving DecidableEq
def cStr (x : Bs) : List PV := [.v (.string ⟨⟨x⟩⟩)]
theorem cStr_one (l : List Bs) : ∀ r ∈ l.map cStr, r.all cellP = true := by
  intro r hr
  obtain ⟨x, _, rfl⟩ := List.mem_map.1 hr
  rfl
def cOp_form (x : Op_form) : List PV := [.v (.string ⟨⟨x.word⟩⟩), .v (.string ⟨⟨x.fields⟩⟩)]
theorem cOp_form_one (l : List Op_form) : ∀ r ∈ l.map cOp_form, r.all cellP = true := by
  intro r hr
  obtain ⟨x, _, rfl⟩ := List.mem_map.1 hr
  rfl
def cInt_u8 (x : Int) : List PV := [.v (.int .u8 x)]
theorem cInt_u8_one (l : List Int) : ∀ r ∈ l.map cInt_u8, r.all cellP = true := by
  intro r hr
  obtain ⟨x, _, rfl⟩ := List.mem_map.1 hr
  rfl
def cInt_i64 (x : Int) : List PV := [.v (.int .i64 x)]
theorem cInt_i64_one (l : List Int) : ∀ r ∈ l.map cInt_i64, r.all cellP = true := by
  intro r hr
  obtain ⟨x, _, rfl⟩ := List.mem_map.1 hr
  rfl
def cBool (x : Bool) : List PV := [.v (.bool x)]
theorem cBool_one (l : List Bool) : ∀ r ∈ l.map cBool, r.all cellP = true := by
  intro r hr
  obtain ⟨x, _, rfl⟩ := List.mem_map.1 hr
  rfl
def cOp (x : Op) : List PV := [.v (.int .i64 x.Kind), .v (.int .i64 x.A), .v (.int .i64 x.B), .v (.int .i64 x.C), .v (.string ⟨⟨x.S⟩⟩), .v (.string ⟨⟨x.T⟩⟩), .v (.bool x.Must)]
theorem cOp_one (l : List Op) : ∀ r ∈ l.map cOp, r.all cellP = true := by
  intro r hr
  obtain ⟨x, _, rfl⟩ := List.mem_map.1 hr
  rfl
def cInt_u16 (x : Int) : List PV := [.v (.int .u16 x)]
theorem cInt_u16_one (l : List Int) : ∀ r ∈ l.map cInt_u16, r.all cellP = true := by
  intro r hr
  obtain ⟨x, _, rfl⟩ := List.mem_map.1 hr
  rfl
def cUnicode_Range16 (x : Unicode_Range16) : List PV := [.v (.int .u16 x.Lo), .v (.int .u16 x.Hi), .v (.int .u16 x.Stride)]
theorem cUnicode_Range16_one (l : List Unicode_Range16) : ∀ r ∈ l.map cUnicode_Range16, r.all cellP = true := by
  intro r hr
  obtain ⟨x, _, rfl⟩ := List.mem_map.1 hr
  rfl
def cInt_u32 (x : Int) : List PV := [.v (.int .u32 x)]
theorem cInt_u32_one (l : List Int) : ∀ r ∈ l.map cInt_u32, r.all cellP = true := by
  intro r hr
  obtain ⟨x, _, rfl⟩ := List.mem_map.1 hr
  rfl
def cUnicode_Range32 (x : Unicode_Range32) : List PV := [.v (.int .u32 x.Lo), .v (.int .u32 x.Hi), .v (.int .u32 x.Stride)]
theorem cUnicode_Range32_one (l : List Unicode_Range32) : ∀ r ∈ l.map cUnicode_Range32, r.all cellP = true := by
  intro r hr
  obtain ⟨x, _, rfl⟩ := List.mem_map.1 hr
  rfl
def cErrors_errorString (x : Errors_errorString) : List PV := [.v (.string ⟨⟨x.s⟩⟩)]
theorem cErrors_errorString_one (l : List Errors_errorString) : ∀ r ∈ l.map cErrors_errorString, r.all cellP = true := by
  intro r hr
  obtain ⟨x, _, rfl⟩ := List.mem_map.1 hr
  rfl
theorem mixed : Tryz.prog.follows .mixedOrders = true := by kernel_rfl
def eqOp (x y : Op) : Bool := (x.Kind == y.Kind) && ((x.A == y.A) && ((x.B == y.B) && ((x.C == y.C) && ((x.S == y.S) && ((x.T == y.T) && ((x.Must == y.Must) && true))))))
theorem eqf_23 : eqOf Tryz.prog 23 = some [(0, 3, .int .i64), (1, 3, .int .i64), (2, 3, .int .i64), (3, 3, .int .i64), (4, 9, .string), (5, 9, .string), (6, 4, .bool)] := by kernel_rfl
theorem call2 : callable Tryz.prog 2 = true := by kernel_rfl
theorem call3 : callable Tryz.prog 3 = true := by kernel_rfl
theorem call4 : callable Tryz.prog 4 = true := by kernel_rfl
theorem call5 : callable Tryz.prog 5 = true := by kernel_rfl
theorem call6 : callable Tryz.prog 6 = true := by kernel_rfl
theorem call7 : callable Tryz.prog 7 = true := by kernel_rfl
theorem call8 : callable Tryz.prog 8 = true := by kernel_rfl
theorem call9 : callable Tryz.prog 9 = true := by kernel_rfl
theorem call10 : callable Tryz.prog 10 = true := by kernel_rfl
theorem call11 : callable Tryz.prog 11 = true := by kernel_rfl
theorem call12 : callable Tryz.prog 12 = true := by kernel_rfl
theorem call13 : callable Tryz.prog 13 = true := by kernel_rfl
theorem call14 : callable Tryz.prog 14 = true := by kernel_rfl
theorem call15 : callable Tryz.prog 15 = true := by kernel_rfl
theorem call16 : callable Tryz.prog 16 = true := by kernel_rfl
theorem call17 : callable Tryz.prog 17 = true := by kernel_rfl
theorem call18 : callable Tryz.prog 18 = true := by kernel_rfl
theorem call19 : callable Tryz.prog 19 = true := by kernel_rfl
theorem call20 : callable Tryz.prog 20 = true := by kernel_rfl
theorem call21 : callable Tryz.prog 21 = true := by kernel_rfl
theorem call22 : callable Tryz.prog 22 = true := by kernel_rfl
theorem call23 : callable Tryz.prog 23 = true := by kernel_rfl
theorem call24 : callable Tryz.prog 24 = true := by kernel_rfl
theorem call25 : callable Tryz.prog 25 = true := by kernel_rfl
theorem call26 : callable Tryz.prog 26 = true := by kernel_rfl
theorem call27 : callable Tryz.prog 27 = true := by kernel_rfl
theorem call28 : callable Tryz.prog 28 = true := by kernel_rfl
theorem call29 : callable Tryz.prog 29 = true := by kernel_rfl
theorem call30 : callable Tryz.prog 30 = true := by kernel_rfl
theorem call31 : callable Tryz.prog 31 = true := by kernel_rfl
theorem call32 : callable Tryz.prog 32 = true := by kernel_rfl
theorem call33 : callable Tryz.prog 33 = true := by kernel_rfl
theorem call34 : callable Tryz.prog 34 = true := by kernel_rfl
theorem call35 : callable Tryz.prog 35 = true := by kernel_rfl
theorem call36 : callable Tryz.prog 36 = true := by kernel_rfl
theorem call37 : callable Tryz.prog 37 = true := by kernel_rfl
theorem call38 : callable Tryz.prog 38 = true := by kernel_rfl
theorem call39 : callable Tryz.prog 39 = true := by kernel_rfl
theorem call40 : callable Tryz.prog 40 = true := by kernel_rfl
theorem call41 : callable Tryz.prog 41 = true := by kernel_rfl
theorem call42 : callable Tryz.prog 42 = true := by kernel_rfl
theorem call43 : callable Tryz.prog 43 = true := by kernel_rfl
theorem call44 : callable Tryz.prog 44 = true := by kernel_rfl
theorem call45 : callable Tryz.prog 45 = true := by kernel_rfl
theorem call46 : callable Tryz.prog 46 = true := by kernel_rfl
theorem call47 : callable Tryz.prog 47 = true := by kernel_rfl
theorem call48 : callable Tryz.prog 48 = true := by kernel_rfl
theorem call49 : callable Tryz.prog 49 = true := by kernel_rfl
theorem call50 : callable Tryz.prog 50 = true := by kernel_rfl
theorem call51 : callable Tryz.prog 51 = true := by kernel_rfl
theorem call52 : callable Tryz.prog 52 = true := by kernel_rfl
theorem call53 : callable Tryz.prog 53 = true := by kernel_rfl
theorem call54 : callable Tryz.prog 54 = true := by kernel_rfl
theorem call55 : callable Tryz.prog 55 = true := by kernel_rfl
theorem call56 : callable Tryz.prog 56 = true := by kernel_rfl
theorem call57 : callable Tryz.prog 57 = true := by kernel_rfl
theorem call58 : callable Tryz.prog 58 = true := by kernel_rfl
theorem call59 : callable Tryz.prog 59 = true := by kernel_rfl
theorem call60 : callable Tryz.prog 60 = true := by kernel_rfl
theorem call62 : callable Tryz.prog 62 = true := by kernel_rfl
theorem call63 : callable Tryz.prog 63 = true := by kernel_rfl
theorem call64 : callable Tryz.prog 64 = true := by kernel_rfl
theorem call65 : callable Tryz.prog 65 = true := by kernel_rfl
theorem call66 : callable Tryz.prog 66 = true := by kernel_rfl
theorem call67 : callable Tryz.prog 67 = true := by kernel_rfl
theorem call68 : callable Tryz.prog 68 = true := by kernel_rfl
theorem call69 : callable Tryz.prog 69 = true := by kernel_rfl
theorem call70 : callable Tryz.prog 70 = true := by kernel_rfl
theorem call71 : callable Tryz.prog 71 = true := by kernel_rfl
theorem call72 : callable Tryz.prog 72 = true := by kernel_rfl
theorem call73 : callable Tryz.prog 73 = true := by kernel_rfl
theorem call74 : callable Tryz.prog 74 = true := by kernel_rfl
theorem call75 : callable Tryz.prog 75 = true := by kernel_rfl
theorem call76 : callable Tryz.prog 76 = true := by kernel_rfl
theorem call78 : callable Tryz.prog 78 = true := by kernel_rfl
theorem call79 : callable Tryz.prog 79 = true := by kernel_rfl
theorem call80 : callable Tryz.prog 80 = true := by kernel_rfl
theorem call81 : callable Tryz.prog 81 = true := by kernel_rfl
theorem call82 : callable Tryz.prog 82 = true := by kernel_rfl
theorem call83 : callable Tryz.prog 83 = true := by kernel_rfl
theorem call84 : callable Tryz.prog 84 = true := by kernel_rfl
theorem call85 : callable Tryz.prog 85 = true := by kernel_rfl
theorem call86 : callable Tryz.prog 86 = true := by kernel_rfl
theorem call87 : callable Tryz.prog 87 = true := by kernel_rfl
theorem call88 : callable Tryz.prog 88 = true := by kernel_rfl
theorem call89 : callable Tryz.prog 89 = true := by kernel_rfl
theorem call91 : callable Tryz.prog 91 = true := by kernel_rfl
theorem call92 : callable Tryz.prog 92 = true := by kernel_rfl
theorem call93 : callable Tryz.prog 93 = true := by kernel_rfl
theorem call94 : callable Tryz.prog 94 = true := by kernel_rfl
theorem call95 : callable Tryz.prog 95 = true := by kernel_rfl
theorem call97 : callable Tryz.prog 97 = true := by kernel_rfl
theorem call98 : callable Tryz.prog 98 = true := by kernel_rfl
theorem call99 : callable Tryz.prog 99 = true := by kernel_rfl
theorem call100 : callable Tryz.prog 100 = true := by kernel_rfl
theorem call101 : callable Tryz.prog 101 = true := by kernel_rfl
theorem call102 : callable Tryz.prog 102 = true := by kernel_rfl
theorem call103 : callable Tryz.prog 103 = true := by kernel_rfl
theorem call104 : callable Tryz.prog 104 = true := by kernel_rfl
theorem call105 : callable Tryz.prog 105 = true := by kernel_rfl
theorem call106 : callable Tryz.prog 106 = true := by kernel_rfl
theorem call107 : callable Tryz.prog 107 = true := by kernel_rfl
theorem call108 : callable Tryz.prog 108 = true := by kernel_rfl
theorem call109 : callable Tryz.prog 109 = true := by kernel_rfl
theorem call111 : callable Tryz.prog 111 = true := by kernel_rfl
theorem call112 : callable Tryz.prog 112 = true := by kernel_rfl
theorem call113 : callable Tryz.prog 113 = true := by kernel_rfl
theorem call114 : callable Tryz.prog 114 = true := by kernel_rfl
theorem call115 : callable Tryz.prog 115 = true := by kernel_rfl
theorem call116 : callable Tryz.prog 116 = true := by kernel_rfl
theorem call117 : callable Tryz.prog 117 = true := by kernel_rfl
theorem call122 : callable Tryz.prog 122 = true := by kernel_rfl
theorem call125 : callable Tryz.prog 125 = true := by kernel_rfl
theorem call126 : callable Tryz.prog 126 = true := by kernel_rfl
theorem call152 : callable Tryz.prog 152 = true := by kernel_rfl
theorem call153 : callable Tryz.prog 153 = true := by kernel_rfl
theorem call154 : callable Tryz.prog 154 = true := by kernel_rfl
theorem call155 : callable Tryz.prog 155 = true := by kernel_rfl
theorem call156 : callable Tryz.prog 156 = true := by kernel_rfl
theorem call158 : callable Tryz.prog 158 = true := by kernel_rfl
theorem call159 : callable Tryz.prog 159 = true := by kernel_rfl
theorem call160 : callable Tryz.prog 160 = true := by kernel_rfl
theorem call161 : callable Tryz.prog 161 = true := by kernel_rfl
theorem call162 : callable Tryz.prog 162 = true := by kernel_rfl
theorem call163 : callable Tryz.prog 163 = true := by kernel_rfl
theorem call164 : callable Tryz.prog 164 = true := by kernel_rfl
theorem call165 : callable Tryz.prog 165 = true := by kernel_rfl
theorem call166 : callable Tryz.prog 166 = true := by kernel_rfl
theorem call167 : callable Tryz.prog 167 = true := by kernel_rfl
theorem call171 : callable Tryz.prog 171 = true := by kernel_rfl
theorem call172 : callable Tryz.prog 172 = true := by kernel_rfl
theorem call173 : callable Tryz.prog 173 = true := by kernel_rfl
theorem call174 : callable Tryz.prog 174 = true := by kernel_rfl
theorem call175 : callable Tryz.prog 175 = true := by kernel_rfl
theorem call188 : callable Tryz.prog 188 = true := by kernel_rfl
end Go.Proofs.YtkngnghbnhgfjaaGreatDoor
