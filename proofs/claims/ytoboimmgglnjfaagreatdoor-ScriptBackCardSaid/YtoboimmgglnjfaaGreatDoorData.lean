/- Data of the program as values of Lean, and facts on its functions: printed by emit2.py. -/
import Derived.Test.YtoboimmgglnjfaaGreatDoorTab
import Derived.Test.YtoboimmgglnjfaaGreatDoorMapp
import Derived.Test.YtoboimmgglnjfaaGreatDoorTail
import Derived.Test.YtoboimmgglnjfaaGreatDoorRne
import Derived.Test.YtoboimmgglnjfaaGreatDoorBld
import Derived.Test.YtoboimmgglnjfaaGreatDoorUnr
import Derived.Test.YtoboimmgglnjfaaGreatDoorLine
import Derived.Test.YtoboimmgglnjfaaGreatDoorWin
import Derived.Test.YtoboimmgglnjfaaGreatDoorArr
import Derived.Test.YtoboimmgglnjfaaGreatDoorKit
namespace Go.Proofs.YtoboimmgglnjfaaGreatDoor
open Go Go.Pw
structure Op where
 Kind : Int
 A : Int
 B : Int
 C : Int
 S : Bs
 T : Bs
 Must : Bool
deriving DecidableEq
structure Hook where
 Kind : Int
 Do : (List Op)
deriving DecidableEq
structure Class where
 Form : Bool
 Watch : (List Bs)
 Peek : (List Op)
 Make : (List Op)
 Hooks : (List Hook)
deriving DecidableEq
structure Script where
 Classes : (List Class)
 Main : (List Op)
deriving DecidableEq
structure Op_form where
 word : Bs
 fields : Bs
deriving DecidableEq
structure Instarref22_Text where
 S : Script
 To : Int
 Bad : Bool
deriving DecidableEq
def cBool (x : Bool) : List PV := [.v (.bool x)]
def cStr (x : Bs) : List PV := [.v (.string ⟨⟨x⟩⟩)]
theorem zPl (l : List Bs) : ∀ r ∈ l.map cStr, r.all zE5 = true := by
 intro r hr
 obtain ⟨x, _, rfl⟩ := List.mem_map.1 hr
 rfl
def zP4 (x : Int) : List PV := [.v (.int .i64 x)]
def cOp (x : Op) : List PV := [.v (.int .i64 x.Kind), .v (.int .i64 x.A), .v (.int .i64 x.B), .v (.int .i64 x.C), .v (.string ⟨⟨x.S⟩⟩), .v (.string ⟨⟨x.T⟩⟩), .v (.bool x.Must)]
theorem zJd (l : List Op) : ∀ r ∈ l.map cOp, r.all zE5 = true := by
 intro r hr
 obtain ⟨x, _, rfl⟩ := List.mem_map.1 hr
 rfl
def zAU (x : Hook) : List PV := [.v (.int .i64 x.Kind), .sl 7 false (x.Do.map cOp)]
def zAG (x : Class) : List PV := [.v (.bool x.Form), .sl 1 false (x.Watch.map cStr), .sl 7 false (x.Peek.map cOp), .sl 7 false (x.Make.map cOp), .sl 2 false (x.Hooks.map zAU)]
def zBZ (x : Script) : List PV := [.sl 5 false (x.Classes.map zAG), .sl 7 false (x.Main.map cOp)]
def zAC (x : Int) : List PV := [.v (.int .u8 x)]
theorem zLL (l : List Int) : ∀ r ∈ l.map zAC, r.all zE5 = true := by
 intro r hr
 obtain ⟨x, _, rfl⟩ := List.mem_map.1 hr
 rfl
def zGf (x : Op_form) : List PV := [.v (.string ⟨⟨x.word⟩⟩), .v (.string ⟨⟨x.fields⟩⟩)]
theorem mixed : Tryz.prog.follows .mixedOrders = true := by kernel_rfl
def eqOp (x y : Op) : Bool := (x.Kind == y.Kind) && ((x.A == y.A) && ((x.B == y.B) && ((x.C == y.C) && ((x.S == y.S) && ((x.T == y.T) && ((x.Must == y.Must) && true))))))
theorem zOP : eqOf Tryz.prog 43 = some [(0, 3, .int .i64), (1, 3, .int .i64), (2, 3, .int .i64), (3, 3, .int .i64), (4, 9, .string), (5, 9, .string), (6, 4, .bool)] := by kernel_rfl
theorem call9 : zAI Tryz.prog 9 = true := by kernel_rfl
theorem call10 : zAI Tryz.prog 10 = true := by kernel_rfl
theorem zQw : zAI Tryz.prog 12 = true := by kernel_rfl
theorem zMW : zAI Tryz.prog 13 = true := by kernel_rfl
theorem zQj : zAI Tryz.prog 15 = true := by kernel_rfl
theorem call17 : zAI Tryz.prog 17 = true := by kernel_rfl
theorem zML : zAI Tryz.prog 19 = true := by kernel_rfl
theorem zLy : zAI Tryz.prog 20 = true := by kernel_rfl
theorem call21 : zAI Tryz.prog 21 = true := by kernel_rfl
theorem zMX : zAI Tryz.prog 22 = true := by kernel_rfl
theorem call23 : zAI Tryz.prog 23 = true := by kernel_rfl
theorem zIH : zAI Tryz.prog 26 = true := by kernel_rfl
theorem zMZ : zAI Tryz.prog 27 = true := by kernel_rfl
theorem zRC : zAI Tryz.prog 28 = true := by kernel_rfl
theorem call29 : zAI Tryz.prog 29 = true := by kernel_rfl
theorem zLs : zAI Tryz.prog 30 = true := by kernel_rfl
theorem call31 : zAI Tryz.prog 31 = true := by kernel_rfl
theorem call32 : zAI Tryz.prog 32 = true := by kernel_rfl
theorem call33 : zAI Tryz.prog 33 = true := by kernel_rfl
theorem call34 : zAI Tryz.prog 34 = true := by kernel_rfl
theorem call35 : zAI Tryz.prog 35 = true := by kernel_rfl
theorem zIt : zAI Tryz.prog 38 = true := by kernel_rfl
theorem call39 : zAI Tryz.prog 39 = true := by kernel_rfl
theorem call40 : zAI Tryz.prog 40 = true := by kernel_rfl
theorem call41 : zAI Tryz.prog 41 = true := by kernel_rfl
theorem call45 : zAI Tryz.prog 45 = true := by kernel_rfl
theorem zOv : zAI Tryz.prog 46 = true := by kernel_rfl
theorem zKV : zAI Tryz.prog 47 = true := by kernel_rfl
theorem zRD : zAI Tryz.prog 48 = true := by kernel_rfl
theorem zQz : zAI Tryz.prog 49 = true := by kernel_rfl
theorem zNl : zAI Tryz.prog 50 = true := by kernel_rfl
theorem zOY : zAI Tryz.prog 51 = true := by kernel_rfl
theorem zN9 : zAI Tryz.prog 52 = true := by kernel_rfl
theorem zNu : zAI Tryz.prog 53 = true := by kernel_rfl
theorem zQk : zAI Tryz.prog 54 = true := by kernel_rfl
theorem zQy : zAI Tryz.prog 55 = true := by kernel_rfl
theorem call56 : zAI Tryz.prog 56 = true := by kernel_rfl
theorem zQ7 : zAI Tryz.prog 57 = true := by kernel_rfl
theorem call58 : zAI Tryz.prog 58 = true := by kernel_rfl
theorem zNI : zAI Tryz.prog 59 = true := by kernel_rfl
theorem call60 : zAI Tryz.prog 60 = true := by kernel_rfl
theorem call61 : zAI Tryz.prog 61 = true := by kernel_rfl
theorem zF1 : zAI Tryz.prog 65 = true := by kernel_rfl
theorem call66 : zAI Tryz.prog 66 = true := by kernel_rfl
theorem zQc : zAI Tryz.prog 67 = true := by kernel_rfl
theorem call68 : zAI Tryz.prog 68 = true := by kernel_rfl
theorem call69 : zAI Tryz.prog 69 = true := by kernel_rfl
theorem zRB : zAI Tryz.prog 70 = true := by kernel_rfl
theorem call71 : zAI Tryz.prog 71 = true := by kernel_rfl
theorem call73 : zAI Tryz.prog 73 = true := by kernel_rfl
theorem call74 : zAI Tryz.prog 74 = true := by kernel_rfl
theorem call75 : zAI Tryz.prog 75 = true := by kernel_rfl
theorem call82 : zAI Tryz.prog 82 = true := by kernel_rfl
theorem call83 : zAI Tryz.prog 83 = true := by kernel_rfl
theorem call84 : zAI Tryz.prog 84 = true := by kernel_rfl
theorem zFQ : zAI Tryz.prog 85 = true := by kernel_rfl
theorem call86 : zAI Tryz.prog 86 = true := by kernel_rfl
theorem zQp : zAI Tryz.prog 87 = true := by kernel_rfl
theorem call88 : zAI Tryz.prog 88 = true := by kernel_rfl
theorem zOr : zAI Tryz.prog 89 = true := by kernel_rfl
theorem zOX : zAI Tryz.prog 90 = true := by kernel_rfl
theorem zQ9 : zAI Tryz.prog 91 = true := by kernel_rfl
theorem call92 : zAI Tryz.prog 92 = true := by kernel_rfl
theorem call93 : zAI Tryz.prog 93 = true := by kernel_rfl
theorem call94 : zAI Tryz.prog 94 = true := by kernel_rfl
theorem call95 : zAI Tryz.prog 95 = true := by kernel_rfl
theorem zOh : zAI Tryz.prog 98 = true := by kernel_rfl
theorem zLH : zAI Tryz.prog 102 = true := by kernel_rfl
theorem zOa : zAI Tryz.prog 103 = true := by kernel_rfl
theorem zSE : zAI Tryz.prog 107 = true := by kernel_rfl
theorem zNq : zAI Tryz.prog 108 = true := by kernel_rfl
theorem zOH : zAI Tryz.prog 109 = true := by kernel_rfl
theorem zSG : zAI Tryz.prog 115 = true := by kernel_rfl
theorem zSZ : zAI Tryz.prog 116 = true := by kernel_rfl
theorem zRM : zAI Tryz.prog 117 = true := by kernel_rfl
theorem zNF : zAI Tryz.prog 118 = true := by kernel_rfl
theorem zKv : zAI Tryz.prog 119 = true := by kernel_rfl
theorem zRe : zAI Tryz.prog 123 = true := by kernel_rfl
theorem zRl : zAI Tryz.prog 137 = true := by kernel_rfl
theorem zRj : zAI Tryz.prog 141 = true := by kernel_rfl
theorem zRv : zAI Tryz.prog 153 = true := by kernel_rfl
variable {ρ : Type} {fn : Func} {w0 : World} {X X0 : Nat → Prop} {σ0 : Nat → Value} {N0 : List Nat} {post : ρ → PV → Store → Prop} {dz : Nat} {L : World → Prop} {hl : Lay L (fun b => ¬ X0 b) w0} {ro : Option Nat} {m : Option ρ} {K : List (Kont ρ)} {E : Env} {S : Store} {all : Array Oper}
theorem pe (k : Nat) {N : Nat} {ops rest : List Oper} {E' : Env} (hk : PO (⟨Tryz.prog, fn, w0, X, X0, σ0, N0, post, dz, L, hl, ro⟩ : Ctx ρ) m all rest K E' S) (hN : N = fn.ntmps := by exact rfl) (h : evsK tab N all S k ops E = some (rest, E') := by exact rfl) : PO (⟨Tryz.prog, fn, w0, X, X0, σ0, N0, post, dz, L, hl, ro⟩ : Ctx ρ) m all ops K E S := zCU (T := tab) k hN h hk
theorem rN {r : ρ} {S' : Store} {rs : List ResultVar} {ps : List PV} {p : PV} (hres : fn.results.toList = rs := by exact rfl) (h : resL tab E S rs = some ps := by exact rfl) (hp1 : oneP ps = p := by exact rfl) (hpost : post r p S' := by exact ⟨rfl, rfl⟩) (hS : zEu S' S := by repeat' first | exact trivial | refine ⟨rfl, ?_⟩) (hn : zCO (S'.map (·.1)) = true := by exact rfl) (hz : dz = w0.heap.size + 1 := by exact rfl) (hK : noL K = true := by exact rfl) : PW (⟨Tryz.prog, fn, w0, X, X0, σ0, N0, post, dz, L, hl, ro⟩ : Ctx ρ) (some r) .ret K E S := zKp (T := tab) hres h hp1 hpost hS hn hz hK
theorem ns {G : Ctx ρ} {c : Code} (h : PW G m c K E S) : PO G m all [] (.seq c :: K) E S := zAB (zAA h)
theorem sr {G : Ctx ρ} {id : Nat} {ops : List Oper} {y : Code} (h : PO G m ops.toArray ops (.seq y :: K) E S) (hd : ops.all (fun o => zDP o.op) = true := by exact rfl) : PW G m (.seq (.region id ops.toArray false) y) K E S := zAE (zAD h hd)
theorem ve {ms : List Nat} {ment0 : List (Nat × List Nat)} {o : Oper} {rest : List Oper} {j : Nat} {acc : List Summ} {V : Vw} (reads writes ns : List Nat) (E1 : Env) {E0 E' : Env} {S0 : Store} {W : Vw} {ment : List (Nat × List Nat)} {N : Nat}
  (k : PDV (⟨Tryz.prog, fn, w0, X, X0, σ0, N0, post, dz, L, hl, ro⟩ : Ctx ρ) m all ms ment0 rest (j + 1) (⟨reads, writes, [], ment⟩ :: acc) (W ++ V) K) (hE0 : zKl V reads = some E0 := by exact rfl) (hS0 : zKP V reads = some S0 := by exact rfl) (hW : wOf E1 [] writes = some W := by exact rfl) (hm : zES W = ment := by exact rfl) (hok : zIE (ms.getD j 0) ment0 j ⟨reads, writes, [], ment⟩ acc = true := by kernel_rfl)
  (hc : zIG (⟨Tryz.prog, fn, w0, X, X0, σ0, N0, post, dz, L, hl, ro⟩ : Ctx ρ) [] writes [] S0 o = true := by kernel_rfl) (hc2 : zGW ns [] writes [] E1 [] = true := by kernel_rfl) (hN : N = fn.ntmps := by exact rfl) (hv : evsK tab N all S0 1 [o] E0 = some ([], E') := by exact rfl) (hE : SubL E1 E' := by repeat' first | exact trivial | refine ⟨rfl, ?_⟩) :
  PDV (⟨Tryz.prog, fn, w0, X, X0, σ0, N0, post, dz, L, hl, ro⟩ : Ctx ρ) m all ms ment0 (o :: rest) j acc V K :=
 zAX reads writes [] ns [] E1 [] hE0 hS0 hW hm hok hc hc2 trivial (fun _ _ _ _ _ => zCU (T := tab) 1 hN hv (zAB (zAw hE trivial rfl))) k
theorem vf {ms : List Nat} {ment0 : List (Nat × List Nat)} {o : Oper} {rest : List Oper} {j : Nat} {acc : List Summ} {V : Vw} (reads writes ks ns keep : List Nat) (E1 : Env) (S1 : Store) {E0 E' : Env} {S0 : Store} {W : Vw} {ment : List (Nat × List Nat)} {N : Nat}
  (k : PDV (⟨Tryz.prog, fn, w0, X, X0, σ0, N0, post, dz, L, hl, ro⟩ : Ctx ρ) m all ms ment0 rest (j + 1) (⟨reads, writes, ks, ment⟩ :: acc) (W ++ V) K) (hE0 : zKl V reads = some E0 := by exact rfl) (hS0 : zKP V reads = some S0 := by exact rfl) (hW : wOf E1 S1 writes = some W := by exact rfl) (hm : zES W = ment := by exact rfl) (hok : zIE (ms.getD j 0) ment0 j ⟨reads, writes, ks, ment⟩ acc = true := by kernel_rfl)
  (hc : zIG (⟨Tryz.prog, fn, w0, X, X0, σ0, N0, post, dz, L, hl, ro⟩ : Ctx ρ) ks writes keep S0 o = true := by kernel_rfl) (hc2 : zGW ns ks writes keep E1 S1 = true := by kernel_rfl) (hkeep : zJk keep S1 S0 := by repeat' first | exact trivial | refine ⟨rfl, ?_⟩) (hN : N = fn.ntmps := by exact rfl) (hv : evsK tab N all S0 1 [o] E0 = some ([], E') := by exact rfl) (hE : SubL E1 E' := by repeat' first | exact trivial | refine ⟨rfl, ?_⟩)
  (hS : zEu S1 S0 := by repeat' first | exact trivial | refine ⟨rfl, ?_⟩) (hn : zCO (S1.map (·.1)) = true := by exact rfl) : PDV (⟨Tryz.prog, fn, w0, X, X0, σ0, N0, post, dz, L, hl, ro⟩ : Ctx ρ) m all ms ment0 (o :: rest) j acc V K :=
 zAX reads writes ks ns keep E1 S1 hE0 hS0 hW hm hok hc hc2 hkeep (fun _ _ _ _ _ => zCU (T := tab) 1 hN hv (zAB (zAw hE hS hn))) k
end Go.Proofs.YtoboimmgglnjfaaGreatDoor
