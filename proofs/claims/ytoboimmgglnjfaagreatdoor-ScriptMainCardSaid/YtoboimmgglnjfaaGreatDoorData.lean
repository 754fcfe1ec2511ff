/- Data of the program as values of Lean, and facts on its functions: printed by emit2.py. -/
import Derived.Test.YtoboimmgglnjfaaGreatDoorTab
import Derived.Test.YtoboimmgglnjfaaGreatDoorMapp
import Derived.Test.YtoboimmgglnjfaaGreatDoorTail
import Derived.Test.YtoboimmgglnjfaaGreatDoorRne
import Derived.Test.YtoboimmgglnjfaaGreatDoorBld
import Derived.Test.YtoboimmgglnjfaaGreatDoorUnr
import Derived.Test.YtoboimmgglnjfaaGreatDoorLine
import Derived.Test.YtoboimmgglnjfaaGreatDoorWin
import Derived.Test.YtoboimmgglnjfaaGreatDoorArr
import Derived.Test.YtoboimmgglnjfaaGreatDoorKit
namespace Go.Proofs.YtoboimmgglnjfaaGreatDoor
open Go Go.Pw
structure Op where
 Kind : Int
 A : Int
 B : Int
 C : Int
 S : Bs
 T : Bs
 Must : Bool
deriving DecidableEq
structure Hook where
 Kind : Int
 Do : (List Op)
deriving DecidableEq
structure Class where
 Form : Bool
 Watch : (List Bs)
 Peek : (List Op)
 Make : (List Op)
 Hooks : (List Hook)
deriving DecidableEq
structure Script where
 Classes : (List Class)
 Main : (List Op)
deriving DecidableEq
structure Op_form where
 word : Bs
 fields : Bs
deriving DecidableEq
structure Instarref22_Text where
 S : Script
 To : Int
 Bad : Bool
deriving DecidableEq
def cStr (x : Bs) : List PV := [.v (.string ⟨⟨x⟩⟩)]
theorem zPb (l : List Bs) : ∀ r ∈ l.map cStr, r.all zEr = true := by
 intro r hr
 obtain ⟨x, _, rfl⟩ := List.mem_map.1 hr
 rfl
def cOp (x : Op) : List PV := [.v (.int .i64 x.Kind), .v (.int .i64 x.A), .v (.int .i64 x.B), .v (.int .i64 x.C), .v (.string ⟨⟨x.S⟩⟩), .v (.string ⟨⟨x.T⟩⟩), .v (.bool x.Must)]
theorem zHq (l : List Op) : ∀ r ∈ l.map cOp, r.all zEr = true := by
 intro r hr
 obtain ⟨x, _, rfl⟩ := List.mem_map.1 hr
 rfl
def zAa (x : Hook) : List PV := [.v (.int .i64 x.Kind), .sl 7 false (x.Do.map cOp)]
def zAI (x : Class) : List PV := [.v (.bool x.Form), .sl 1 false (x.Watch.map cStr), .sl 7 false (x.Peek.map cOp), .sl 7 false (x.Make.map cOp), .sl 2 false (x.Hooks.map zAa)]
def zDB (x : Script) : List PV := [.sl 5 false (x.Classes.map zAI), .sl 7 false (x.Main.map cOp)]
def zAA (x : Int) : List PV := [.v (.int .u8 x)]
theorem zLC (l : List Int) : ∀ r ∈ l.map zAA, r.all zEr = true := by
 intro r hr
 obtain ⟨x, _, rfl⟩ := List.mem_map.1 hr
 rfl
def zF4 (x : Op_form) : List PV := [.v (.string ⟨⟨x.word⟩⟩), .v (.string ⟨⟨x.fields⟩⟩)]
theorem mixed : Tryz.prog.follows .mixedOrders = true := by kernel_rfl
def eqOp (x y : Op) : Bool := (x.Kind == y.Kind) && ((x.A == y.A) && ((x.B == y.B) && ((x.C == y.C) && ((x.S == y.S) && ((x.T == y.T) && ((x.Must == y.Must) && true))))))
theorem zNM : eqOf Tryz.prog 43 = some [(0, 3, .int .i64), (1, 3, .int .i64), (2, 3, .int .i64), (3, 3, .int .i64), (4, 9, .string), (5, 9, .string), (6, 4, .bool)] := by kernel_rfl
theorem call9 : zAH Tryz.prog 9 = true := by kernel_rfl
theorem call12 : zAH Tryz.prog 12 = true := by kernel_rfl
theorem zQj : zAH Tryz.prog 13 = true := by kernel_rfl
theorem zMu : zAH Tryz.prog 15 = true := by kernel_rfl
theorem call18 : zAH Tryz.prog 18 = true := by kernel_rfl
theorem zJ7 : zAH Tryz.prog 19 = true := by kernel_rfl
theorem zQu : zAH Tryz.prog 20 = true := by kernel_rfl
theorem call21 : zAH Tryz.prog 21 = true := by kernel_rfl
theorem zHx : zAH Tryz.prog 26 = true := by kernel_rfl
theorem zLS : zAH Tryz.prog 27 = true := by kernel_rfl
theorem zQt : zAH Tryz.prog 28 = true := by kernel_rfl
theorem call29 : zAH Tryz.prog 29 = true := by kernel_rfl
theorem zLQ : zAH Tryz.prog 30 = true := by kernel_rfl
theorem call31 : zAH Tryz.prog 31 = true := by kernel_rfl
theorem call32 : zAH Tryz.prog 32 = true := by kernel_rfl
theorem call33 : zAH Tryz.prog 33 = true := by kernel_rfl
theorem call34 : zAH Tryz.prog 34 = true := by kernel_rfl
theorem call35 : zAH Tryz.prog 35 = true := by kernel_rfl
theorem zIa : zAH Tryz.prog 38 = true := by kernel_rfl
theorem call39 : zAH Tryz.prog 39 = true := by kernel_rfl
theorem call40 : zAH Tryz.prog 40 = true := by kernel_rfl
theorem call41 : zAH Tryz.prog 41 = true := by kernel_rfl
theorem zOt : zAH Tryz.prog 46 = true := by kernel_rfl
theorem zJo : zAH Tryz.prog 47 = true := by kernel_rfl
theorem zQr : zAH Tryz.prog 48 = true := by kernel_rfl
theorem zQi : zAH Tryz.prog 49 = true := by kernel_rfl
theorem zMv : zAH Tryz.prog 50 = true := by kernel_rfl
theorem zM3 : zAH Tryz.prog 51 = true := by kernel_rfl
theorem zOo : zAH Tryz.prog 52 = true := by kernel_rfl
theorem zOE : zAH Tryz.prog 53 = true := by kernel_rfl
theorem zQq : zAH Tryz.prog 54 = true := by kernel_rfl
theorem zQL : zAH Tryz.prog 55 = true := by kernel_rfl
theorem call56 : zAH Tryz.prog 56 = true := by kernel_rfl
theorem zQS : zAH Tryz.prog 57 = true := by kernel_rfl
theorem call58 : zAH Tryz.prog 58 = true := by kernel_rfl
theorem zNj : zAH Tryz.prog 59 = true := by kernel_rfl
theorem call60 : zAH Tryz.prog 60 = true := by kernel_rfl
theorem call61 : zAH Tryz.prog 61 = true := by kernel_rfl
theorem zFm : zAH Tryz.prog 65 = true := by kernel_rfl
theorem call66 : zAH Tryz.prog 66 = true := by kernel_rfl
theorem zQN : zAH Tryz.prog 67 = true := by kernel_rfl
theorem call68 : zAH Tryz.prog 68 = true := by kernel_rfl
theorem call69 : zAH Tryz.prog 69 = true := by kernel_rfl
theorem zQf : zAH Tryz.prog 70 = true := by kernel_rfl
theorem call71 : zAH Tryz.prog 71 = true := by kernel_rfl
theorem call73 : zAH Tryz.prog 73 = true := by kernel_rfl
theorem call74 : zAH Tryz.prog 74 = true := by kernel_rfl
theorem call75 : zAH Tryz.prog 75 = true := by kernel_rfl
theorem call83 : zAH Tryz.prog 83 = true := by kernel_rfl
theorem call84 : zAH Tryz.prog 84 = true := by kernel_rfl
theorem zE7 : zAH Tryz.prog 85 = true := by kernel_rfl
theorem call86 : zAH Tryz.prog 86 = true := by kernel_rfl
theorem zQv : zAH Tryz.prog 87 = true := by kernel_rfl
theorem call88 : zAH Tryz.prog 88 = true := by kernel_rfl
theorem zNn : zAH Tryz.prog 89 = true := by kernel_rfl
theorem zMz : zAH Tryz.prog 90 = true := by kernel_rfl
theorem zQp : zAH Tryz.prog 91 = true := by kernel_rfl
theorem call92 : zAH Tryz.prog 92 = true := by kernel_rfl
theorem call93 : zAH Tryz.prog 93 = true := by kernel_rfl
theorem call94 : zAH Tryz.prog 94 = true := by kernel_rfl
theorem call95 : zAH Tryz.prog 95 = true := by kernel_rfl
theorem zOw : zAH Tryz.prog 98 = true := by kernel_rfl
theorem zKi : zAH Tryz.prog 102 = true := by kernel_rfl
theorem zMx : zAH Tryz.prog 103 = true := by kernel_rfl
theorem zSC : zAH Tryz.prog 107 = true := by kernel_rfl
theorem zO4 : zAH Tryz.prog 108 = true := by kernel_rfl
theorem zNp : zAH Tryz.prog 109 = true := by kernel_rfl
theorem zSD : zAH Tryz.prog 115 = true := by kernel_rfl
theorem zRJ : zAH Tryz.prog 116 = true := by kernel_rfl
theorem zRF : zAH Tryz.prog 117 = true := by kernel_rfl
theorem zOy : zAH Tryz.prog 118 = true := by kernel_rfl
theorem zKw : zAH Tryz.prog 119 = true := by kernel_rfl
theorem zR4 : zAH Tryz.prog 123 = true := by kernel_rfl
theorem zRU : zAH Tryz.prog 137 = true := by kernel_rfl
theorem zRM : zAH Tryz.prog 141 = true := by kernel_rfl
theorem zRT : zAH Tryz.prog 153 = true := by kernel_rfl
variable {ρ : Type} {fn : Func} {w0 : World} {X X0 : Nat → Prop} {σ0 : Nat → Value} {N0 : List Nat} {post : ρ → PV → Store → Prop} {dz : Nat} {L : World → Prop} {hl : Lay L (fun b => ¬ X0 b) w0} {ro : Option Nat} {m : Option ρ} {K : List (Kont ρ)} {E : Env} {S : Store} {all : Array Oper}
theorem pe (k : Nat) {N : Nat} {ops rest : List Oper} {E' : Env} (hk : PO (⟨Tryz.prog, fn, w0, X, X0, σ0, N0, post, dz, L, hl, ro⟩ : Ctx ρ) m all rest K E' S) (hN : N = fn.ntmps := by exact rfl) (h : evsK tab N all S k ops E = some (rest, E') := by exact rfl) : PO (⟨Tryz.prog, fn, w0, X, X0, σ0, N0, post, dz, L, hl, ro⟩ : Ctx ρ) m all ops K E S := zCK (T := tab) k hN h hk
theorem rN {r : ρ} {S' : Store} {rs : List ResultVar} {ps : List PV} {p : PV} (hres : fn.results.toList = rs := by exact rfl) (h : resL tab E S rs = some ps := by exact rfl) (hp1 : oneP ps = p := by exact rfl) (hpost : post r p S' := by exact ⟨rfl, rfl⟩) (hS : zEU S' S := by repeat' first | exact trivial | refine ⟨rfl, ?_⟩) (hn : zCC (S'.map (·.1)) = true := by exact rfl) (hz : dz = w0.heap.size + 1 := by exact rfl) (hK : noL K = true := by exact rfl) : PW (⟨Tryz.prog, fn, w0, X, X0, σ0, N0, post, dz, L, hl, ro⟩ : Ctx ρ) (some r) .ret K E S := zKt (T := tab) hres h hp1 hpost hS hn hz hK
theorem ns {G : Ctx ρ} {c : Code} (h : PW G m c K E S) : PO G m all [] (.seq c :: K) E S := zAC (zAB h)
theorem sr {G : Ctx ρ} {id : Nat} {ops : List Oper} {y : Code} (h : PO G m ops.toArray ops (.seq y :: K) E S) (hd : ops.all (fun o => zDK o.op) = true := by exact rfl) : PW G m (.seq (.region id ops.toArray false) y) K E S := zAE (zAD h hd)
theorem ve {ms : List Nat} {ment0 : List (Nat × List Nat)} {o : Oper} {rest : List Oper} {j : Nat} {acc : List Summ} {V : Vw} (reads writes ns : List Nat) (E1 : Env) {E0 E' : Env} {S0 : Store} {W : Vw} {ment : List (Nat × List Nat)} {N : Nat}
  (k : PDV (⟨Tryz.prog, fn, w0, X, X0, σ0, N0, post, dz, L, hl, ro⟩ : Ctx ρ) m all ms ment0 rest (j + 1) (⟨reads, writes, [], ment⟩ :: acc) (W ++ V) K) (hE0 : zJw V reads = some E0 := by exact rfl) (hS0 : zJV V reads = some S0 := by exact rfl) (hW : wOf E1 [] writes = some W := by exact rfl) (hm : zEI W = ment := by exact rfl) (hok : zHt (ms.getD j 0) ment0 j ⟨reads, writes, [], ment⟩ acc = true := by kernel_rfl)
  (hc : zHc (⟨Tryz.prog, fn, w0, X, X0, σ0, N0, post, dz, L, hl, ro⟩ : Ctx ρ) [] writes [] S0 o = true := by kernel_rfl) (hc2 : zF5 ns [] writes [] E1 [] = true := by kernel_rfl) (hN : N = fn.ntmps := by exact rfl) (hv : evsK tab N all S0 1 [o] E0 = some ([], E') := by exact rfl) (hE : SubL E1 E' := by repeat' first | exact trivial | refine ⟨rfl, ?_⟩) :
  PDV (⟨Tryz.prog, fn, w0, X, X0, σ0, N0, post, dz, L, hl, ro⟩ : Ctx ρ) m all ms ment0 (o :: rest) j acc V K :=
 zAY reads writes [] ns [] E1 [] hE0 hS0 hW hm hok hc hc2 trivial (fun _ _ _ _ _ => zCK (T := tab) 1 hN hv (zAC (zAz hE trivial rfl))) k
theorem vf {ms : List Nat} {ment0 : List (Nat × List Nat)} {o : Oper} {rest : List Oper} {j : Nat} {acc : List Summ} {V : Vw} (reads writes ks ns keep : List Nat) (E1 : Env) (S1 : Store) {E0 E' : Env} {S0 : Store} {W : Vw} {ment : List (Nat × List Nat)} {N : Nat}
  (k : PDV (⟨Tryz.prog, fn, w0, X, X0, σ0, N0, post, dz, L, hl, ro⟩ : Ctx ρ) m all ms ment0 rest (j + 1) (⟨reads, writes, ks, ment⟩ :: acc) (W ++ V) K) (hE0 : zJw V reads = some E0 := by exact rfl) (hS0 : zJV V reads = some S0 := by exact rfl) (hW : wOf E1 S1 writes = some W := by exact rfl) (hm : zEI W = ment := by exact rfl) (hok : zHt (ms.getD j 0) ment0 j ⟨reads, writes, ks, ment⟩ acc = true := by kernel_rfl)
  (hc : zHc (⟨Tryz.prog, fn, w0, X, X0, σ0, N0, post, dz, L, hl, ro⟩ : Ctx ρ) ks writes keep S0 o = true := by kernel_rfl) (hc2 : zF5 ns ks writes keep E1 S1 = true := by kernel_rfl) (hkeep : zKM keep S1 S0 := by repeat' first | exact trivial | refine ⟨rfl, ?_⟩) (hN : N = fn.ntmps := by exact rfl) (hv : evsK tab N all S0 1 [o] E0 = some ([], E') := by exact rfl) (hE : SubL E1 E' := by repeat' first | exact trivial | refine ⟨rfl, ?_⟩)
  (hS : zEU S1 S0 := by repeat' first | exact trivial | refine ⟨rfl, ?_⟩) (hn : zCC (S1.map (·.1)) = true := by exact rfl) : PDV (⟨Tryz.prog, fn, w0, X, X0, σ0, N0, post, dz, L, hl, ro⟩ : Ctx ρ) m all ms ment0 (o :: rest) j acc V K :=
 zAY reads writes ks ns keep E1 S1 hE0 hS0 hW hm hok hc hc2 hkeep (fun _ _ _ _ _ => zCK (T := tab) 1 hN hv (zAC (zAz hE hS hn))) k
end Go.Proofs.YtoboimmgglnjfaaGreatDoor
