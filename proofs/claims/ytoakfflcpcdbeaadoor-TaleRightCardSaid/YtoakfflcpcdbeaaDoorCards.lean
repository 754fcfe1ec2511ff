/-
  DERIVED. GIVEN WITH THE SEED: THE CARDS: each row of YtoakfflcpcdbeaaDoorRows.lean that lists a variable, with what it lists TIED to the program's text (the seventh form; the later family's looks); each row that meets fmt, with fmt's text TOLD by the authors' own Lean function (tested against real Go, not proved from fmt's source: count such statements apart). THE CARD IS WHAT COUNTS. Prove the row's statement (the work); the ties are given (YtoakfflcpcdbeaaDoorTie.lean); close each card by the builder's one call (the guide's Derived/Test/ToyasCard.lean, 'card_holds'). Laid BY PROGRAM, IN A SANDBOX (cutbox-door.mjs). By AI agents, Wed Nov 11 2026. No macro, syntax, notation, axiom, sorry.
-/
import Derived.Test.YtoakfflcpcdbeaaDoorRows
import GoSem.ClaimSeven
namespace Go.Proofs.YtoakfflcpcdbeaaDoor
namespace Rows

/-- THE TIED CARD OF 'instarlaw24.TaleRight'. -/
def taleRightCard : Claim7 := { stood := { row := taleRightRow, standIns := [], harness := (true, "a5e223abdac40c00986ac88bbb4b1949904f49a8d10ce5032837fb154381c8b7"), looks := true }, kinds := [], alts := [], laidByText := true, laidKinds := [.data, .data, .data, .sentinel, .sentinel, .listed, .data], laidTests := true, laidLooks := .later }
def TaleRightCardSaid : Prop := Claim7.holds Tryd.pinned (.plain (OpenSpec.ofChange taleRightSpec)) taleRightCard

/-- THE TIED CARD OF 'instarlaw24.TaleBack'. -/
def taleBackCard : Claim7 := { stood := { row := taleBackRow, standIns := [], harness := (true, "a5e223abdac40c00986ac88bbb4b1949904f49a8d10ce5032837fb154381c8b7"), looks := true }, kinds := [], alts := [], laidByText := true, laidKinds := [.data, .data, .data, .sentinel, .sentinel, .listed, .data], laidTests := true, laidLooks := .later }
def TaleBackCardSaid : Prop := Claim7.holds Tryd.pinned (.plain (OpenSpec.ofChange taleBackSpec)) taleBackCard

/-- THE TIED CARD OF 'instarlaw24.TaleReads'. -/
def taleReadsCard : Claim7 := { stood := { row := taleReadsRow, standIns := [], harness := (true, "a5e223abdac40c00986ac88bbb4b1949904f49a8d10ce5032837fb154381c8b7"), looks := true }, kinds := [], alts := [], laidByText := true, laidKinds := [.data, .data, .data, .sentinel, .sentinel, .listed, .data], laidTests := true, laidLooks := .later }
def TaleReadsCardSaid : Prop := Claim7.holds Tryd.pinned (.plain (OpenSpec.ofChange taleReadsSpec)) taleReadsCard

/-- THE TIED CARD OF 'instarlaw24.TaleOne'. -/
def taleOneCard : Claim7 := { stood := { row := taleOneRow, standIns := [], harness := (true, "a5e223abdac40c00986ac88bbb4b1949904f49a8d10ce5032837fb154381c8b7"), looks := true }, kinds := [], alts := [], laidByText := true, laidKinds := [.data, .data, .data, .sentinel, .sentinel, .listed, .data], laidTests := true, laidLooks := .later }
def TaleOneCardSaid : Prop := Claim7.holds Tryd.pinned (.plain (OpenSpec.ofChange taleOneSpec)) taleOneCard

/-- THE SECOND FORM's CARD OF 'instarlaw24.TaleRight'. -/
def taleRightUptoCard : Claim7 := { stood := { row := taleRightUptoRow, standIns := [], harness := (true, "a5e223abdac40c00986ac88bbb4b1949904f49a8d10ce5032837fb154381c8b7"), looks := true }, kinds := [], alts := [], laidByText := true, laidKinds := [.data, .data, .data, .sentinel, .sentinel, .listed, .data], laidTests := true, laidLooks := .later }
def TaleRightUptoCardSaid : Prop := Claim7.holds Tryd.pinned (.plain (OpenSpec.upto taleRightSpec)) taleRightUptoCard

/-- THE SECOND FORM's CARD OF 'instarlaw24.TaleBack'. -/
def taleBackUptoCard : Claim7 := { stood := { row := taleBackUptoRow, standIns := [], harness := (true, "a5e223abdac40c00986ac88bbb4b1949904f49a8d10ce5032837fb154381c8b7"), looks := true }, kinds := [], alts := [], laidByText := true, laidKinds := [.data, .data, .data, .sentinel, .sentinel, .listed, .data], laidTests := true, laidLooks := .later }
def TaleBackUptoCardSaid : Prop := Claim7.holds Tryd.pinned (.plain (OpenSpec.upto taleBackSpec)) taleBackUptoCard

/-- THE SECOND FORM's CARD OF 'instarlaw24.TaleReads'. -/
def taleReadsUptoCard : Claim7 := { stood := { row := taleReadsUptoRow, standIns := [], harness := (true, "a5e223abdac40c00986ac88bbb4b1949904f49a8d10ce5032837fb154381c8b7"), looks := true }, kinds := [], alts := [], laidByText := true, laidKinds := [.data, .data, .data, .sentinel, .sentinel, .listed, .data], laidTests := true, laidLooks := .later }
def TaleReadsUptoCardSaid : Prop := Claim7.holds Tryd.pinned (.plain (OpenSpec.upto taleReadsSpec)) taleReadsUptoCard

/-- THE SECOND FORM's CARD OF 'instarlaw24.TaleOne'. -/
def taleOneUptoCard : Claim7 := { stood := { row := taleOneUptoRow, standIns := [], harness := (true, "a5e223abdac40c00986ac88bbb4b1949904f49a8d10ce5032837fb154381c8b7"), looks := true }, kinds := [], alts := [], laidByText := true, laidKinds := [.data, .data, .data, .sentinel, .sentinel, .listed, .data], laidTests := true, laidLooks := .later }
def TaleOneUptoCardSaid : Prop := Claim7.holds Tryd.pinned (.plain (OpenSpec.upto taleOneSpec)) taleOneUptoCard
end Rows
end Go.Proofs.YtoakfflcpcdbeaaDoor
