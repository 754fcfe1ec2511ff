/-
  DERIVED. GIVEN WITH THE SEED: THE CARDS: each row of YtkngnghbnhgfjaaGreatDoorRows.lean that lists a variable, with what it lists TIED to the program's text (the seventh form; the later family's looks); each row that meets fmt, with fmt's text TOLD by the authors' own Lean function (tested against real Go, not proved from fmt's source: count such statements apart). THE CARD IS WHAT COUNTS. Prove the row's statement (the work); the ties are given (YtkngnghbnhgfjaaGreatDoorTie.lean); close each card by the builder's one call (the guide's Derived/Test/ToyasCard.lean, 'card_holds'). Laid BY PROGRAM, IN A SANDBOX (cutbox-door.mjs). By AI agents, Wed Nov 11 2026. No macro, syntax, notation, axiom, sorry.
-/
import Derived.Test.YtkngnghbnhgfjaaGreatDoorRows
import GoSem.ClaimSeven
namespace Go.Proofs.YtkngnghbnhgfjaaGreatDoor
namespace Rows

/-- THE TIED CARD OF 'instarlaw16.OpRight'. -/
def opRightCard : Claim7 := { stood := { row := opRightRow, standIns := [], harness := (true, "df1c10b270978b9bdd28db4c1c69dccb491a2fd6cd7e734a44b84a8799c7183c"), looks := true }, kinds := [], alts := [], laidByText := true, laidKinds := [.data, .data, .data, .sentinel, .sentinel, .listed, .data], laidTests := true, laidLooks := .later }
def OpRightCardSaid : Prop := Claim7.holds Tryz.pinned (.plain (OpenSpec.ofChange opRightSpec)) opRightCard

/-- THE TIED CARD OF 'instarlaw16.OpBack'. -/
def opBackCard : Claim7 := { stood := { row := opBackRow, standIns := [], harness := (true, "df1c10b270978b9bdd28db4c1c69dccb491a2fd6cd7e734a44b84a8799c7183c"), looks := true }, kinds := [], alts := [], laidByText := true, laidKinds := [.data, .data, .data, .sentinel, .sentinel, .listed, .data], laidTests := true, laidLooks := .later }
def OpBackCardSaid : Prop := Claim7.holds Tryz.pinned (.plain (OpenSpec.ofChange opBackSpec)) opBackCard

/-- THE TIED CARD OF 'instarlaw16.OpReads'. -/
def opReadsCard : Claim7 := { stood := { row := opReadsRow, standIns := [], harness := (true, "df1c10b270978b9bdd28db4c1c69dccb491a2fd6cd7e734a44b84a8799c7183c"), looks := true }, kinds := [], alts := [], laidByText := true, laidKinds := [.data, .data, .data, .sentinel, .sentinel, .listed, .data], laidTests := true, laidLooks := .later }
def OpReadsCardSaid : Prop := Claim7.holds Tryz.pinned (.plain (OpenSpec.ofChange opReadsSpec)) opReadsCard

/-- THE TIED CARD OF 'instarlaw16.OpAims'. -/
def opAimsCard : Claim7 := { stood := { row := opAimsRow, standIns := [], harness := (true, "df1c10b270978b9bdd28db4c1c69dccb491a2fd6cd7e734a44b84a8799c7183c"), looks := true }, kinds := [], alts := [], laidByText := true, laidKinds := [.data, .data, .data, .sentinel, .sentinel, .listed, .data], laidTests := true, laidLooks := .later }
def OpAimsCardSaid : Prop := Claim7.holds Tryz.pinned (.plain (OpenSpec.ofChange opAimsSpec)) opAimsCard

/-- THE TIED CARD OF 'instarlaw16.OpKinds'. -/
def opKindsCard : Claim7 := { stood := { row := opKindsRow, standIns := [], harness := (true, "df1c10b270978b9bdd28db4c1c69dccb491a2fd6cd7e734a44b84a8799c7183c"), looks := true }, kinds := [], alts := [], laidByText := true, laidKinds := [.data, .data, .data, .sentinel, .sentinel, .listed, .data], laidTests := true, laidLooks := .later }
def OpKindsCardSaid : Prop := Claim7.holds Tryz.pinned (.plain (OpenSpec.ofChange opKindsSpec)) opKindsCard

/-- THE SECOND FORM's CARD OF 'instarlaw16.OpRight'. -/
def opRightUptoCard : Claim7 := { stood := { row := opRightUptoRow, standIns := [], harness := (true, "df1c10b270978b9bdd28db4c1c69dccb491a2fd6cd7e734a44b84a8799c7183c"), looks := true }, kinds := [], alts := [], laidByText := true, laidKinds := [.data, .data, .data, .sentinel, .sentinel, .listed, .data], laidTests := true, laidLooks := .later }
def OpRightUptoCardSaid : Prop := Claim7.holds Tryz.pinned (.plain (OpenSpec.upto opRightSpec)) opRightUptoCard

/-- THE SECOND FORM's CARD OF 'instarlaw16.OpBack'. -/
def opBackUptoCard : Claim7 := { stood := { row := opBackUptoRow, standIns := [], harness := (true, "df1c10b270978b9bdd28db4c1c69dccb491a2fd6cd7e734a44b84a8799c7183c"), looks := true }, kinds := [], alts := [], laidByText := true, laidKinds := [.data, .data, .data, .sentinel, .sentinel, .listed, .data], laidTests := true, laidLooks := .later }
def OpBackUptoCardSaid : Prop := Claim7.holds Tryz.pinned (.plain (OpenSpec.upto opBackSpec)) opBackUptoCard

/-- THE SECOND FORM's CARD OF 'instarlaw16.OpReads'. -/
def opReadsUptoCard : Claim7 := { stood := { row := opReadsUptoRow, standIns := [], harness := (true, "df1c10b270978b9bdd28db4c1c69dccb491a2fd6cd7e734a44b84a8799c7183c"), looks := true }, kinds := [], alts := [], laidByText := true, laidKinds := [.data, .data, .data, .sentinel, .sentinel, .listed, .data], laidTests := true, laidLooks := .later }
def OpReadsUptoCardSaid : Prop := Claim7.holds Tryz.pinned (.plain (OpenSpec.upto opReadsSpec)) opReadsUptoCard

/-- THE SECOND FORM's CARD OF 'instarlaw16.OpAims'. -/
def opAimsUptoCard : Claim7 := { stood := { row := opAimsUptoRow, standIns := [], harness := (true, "df1c10b270978b9bdd28db4c1c69dccb491a2fd6cd7e734a44b84a8799c7183c"), looks := true }, kinds := [], alts := [], laidByText := true, laidKinds := [.data, .data, .data, .sentinel, .sentinel, .listed, .data], laidTests := true, laidLooks := .later }
def OpAimsUptoCardSaid : Prop := Claim7.holds Tryz.pinned (.plain (OpenSpec.upto opAimsSpec)) opAimsUptoCard

/-- THE SECOND FORM's CARD OF 'instarlaw16.OpKinds'. -/
def opKindsUptoCard : Claim7 := { stood := { row := opKindsUptoRow, standIns := [], harness := (true, "df1c10b270978b9bdd28db4c1c69dccb491a2fd6cd7e734a44b84a8799c7183c"), looks := true }, kinds := [], alts := [], laidByText := true, laidKinds := [.data, .data, .data, .sentinel, .sentinel, .listed, .data], laidTests := true, laidLooks := .later }
def OpKindsUptoCardSaid : Prop := Claim7.holds Tryz.pinned (.plain (OpenSpec.upto opKindsSpec)) opKindsUptoCard
end Rows
end Go.Proofs.YtkngnghbnhgfjaaGreatDoor
