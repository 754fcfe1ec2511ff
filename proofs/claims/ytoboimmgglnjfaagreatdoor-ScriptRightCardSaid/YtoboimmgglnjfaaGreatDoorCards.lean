/-
  DERIVED. GIVEN WITH THE SEED: THE CARDS: each row of YtoboimmgglnjfaaGreatDoorRows.lean that lists a variable, with what it lists TIED to the program's text (the seventh form; the later family's looks); each row that meets fmt, with fmt's text TOLD by the authors' own Lean function (tested against real Go, not proved from fmt's source: count such statements apart). THE CARD IS WHAT COUNTS. Prove the row's statement (the work); the ties are given (YtoboimmgglnjfaaGreatDoorTie.lean); close each card by the builder's one call (the guide's Derived/Test/ToyasCard.lean, 'card_holds'). Laid BY PROGRAM, IN A SANDBOX (cutbox-door.mjs). By AI agents, Wed Nov 11 2026. No macro, syntax, notation, axiom, sorry.
-/
import Derived.Test.YtoboimmgglnjfaaGreatDoorRows
import GoSem.ClaimSeven
namespace Go.Proofs.YtoboimmgglnjfaaGreatDoor
namespace Rows

/-- THE TIED CARD OF 'instarlaw22.ScriptRight'. -/
def scriptRightCard : Claim7 := { stood := { row := scriptRightRow, standIns := [], harness := (true, "4baf01da366c9b472918be08ecdebf54c0a97773b57b3421c9e936bf9ad69bfc"), looks := true }, kinds := [], alts := [], laidByText := true, laidKinds := [.data, .data, .data, .sentinel, .sentinel, .listed, .data], laidTests := true, laidLooks := .later }
def ScriptRightCardSaid : Prop := Claim7.holds Tryz.pinned (.plain (OpenSpec.ofChange scriptRightSpec)) scriptRightCard

/-- THE TIED CARD OF 'instarlaw22.ScriptBack'. -/
def scriptBackCard : Claim7 := { stood := { row := scriptBackRow, standIns := [], harness := (true, "4baf01da366c9b472918be08ecdebf54c0a97773b57b3421c9e936bf9ad69bfc"), looks := true }, kinds := [], alts := [], laidByText := true, laidKinds := [.data, .data, .data, .sentinel, .sentinel, .listed, .data], laidTests := true, laidLooks := .later }
def ScriptBackCardSaid : Prop := Claim7.holds Tryz.pinned (.plain (OpenSpec.ofChange scriptBackSpec)) scriptBackCard

/-- THE TIED CARD OF 'instarlaw22.ScriptReads'. -/
def scriptReadsCard : Claim7 := { stood := { row := scriptReadsRow, standIns := [], harness := (true, "4baf01da366c9b472918be08ecdebf54c0a97773b57b3421c9e936bf9ad69bfc"), looks := true }, kinds := [], alts := [], laidByText := true, laidKinds := [.data, .data, .data, .sentinel, .sentinel, .listed, .data], laidTests := true, laidLooks := .later }
def ScriptReadsCardSaid : Prop := Claim7.holds Tryz.pinned (.plain (OpenSpec.ofChange scriptReadsSpec)) scriptReadsCard

/-- THE TIED CARD OF 'instarlaw22.ScriptMain'. -/
def scriptMainCard : Claim7 := { stood := { row := scriptMainRow, standIns := [], harness := (true, "4baf01da366c9b472918be08ecdebf54c0a97773b57b3421c9e936bf9ad69bfc"), looks := true }, kinds := [], alts := [], laidByText := true, laidKinds := [.data, .data, .data, .sentinel, .sentinel, .listed, .data], laidTests := true, laidLooks := .later }
def ScriptMainCardSaid : Prop := Claim7.holds Tryz.pinned (.plain (OpenSpec.ofChange scriptMainSpec)) scriptMainCard

/-- THE TIED CARD OF 'instarlaw22.ScriptClass'. -/
def scriptClassCard : Claim7 := { stood := { row := scriptClassRow, standIns := [], harness := (true, "4baf01da366c9b472918be08ecdebf54c0a97773b57b3421c9e936bf9ad69bfc"), looks := true }, kinds := [], alts := [], laidByText := true, laidKinds := [.data, .data, .data, .sentinel, .sentinel, .listed, .data], laidTests := true, laidLooks := .later }
def ScriptClassCardSaid : Prop := Claim7.holds Tryz.pinned (.plain (OpenSpec.ofChange scriptClassSpec)) scriptClassCard

/-- THE TIED CARD OF 'instarlaw22.ScriptMore'. -/
def scriptMoreCard : Claim7 := { stood := { row := scriptMoreRow, standIns := [], harness := (true, "4baf01da366c9b472918be08ecdebf54c0a97773b57b3421c9e936bf9ad69bfc"), looks := true }, kinds := [], alts := [], laidByText := true, laidKinds := [.data, .data, .data, .sentinel, .sentinel, .listed, .data], laidTests := true, laidLooks := .later }
def ScriptMoreCardSaid : Prop := Claim7.holds Tryz.pinned (.plain (OpenSpec.ofChange scriptMoreSpec)) scriptMoreCard

/-- THE SECOND FORM's CARD OF 'instarlaw22.ScriptRight'. -/
def scriptRightUptoCard : Claim7 := { stood := { row := scriptRightUptoRow, standIns := [], harness := (true, "4baf01da366c9b472918be08ecdebf54c0a97773b57b3421c9e936bf9ad69bfc"), looks := true }, kinds := [], alts := [], laidByText := true, laidKinds := [.data, .data, .data, .sentinel, .sentinel, .listed, .data], laidTests := true, laidLooks := .later }
def ScriptRightUptoCardSaid : Prop := Claim7.holds Tryz.pinned (.plain (OpenSpec.upto scriptRightSpec)) scriptRightUptoCard

/-- THE SECOND FORM's CARD OF 'instarlaw22.ScriptBack'. -/
def scriptBackUptoCard : Claim7 := { stood := { row := scriptBackUptoRow, standIns := [], harness := (true, "4baf01da366c9b472918be08ecdebf54c0a97773b57b3421c9e936bf9ad69bfc"), looks := true }, kinds := [], alts := [], laidByText := true, laidKinds := [.data, .data, .data, .sentinel, .sentinel, .listed, .data], laidTests := true, laidLooks := .later }
def ScriptBackUptoCardSaid : Prop := Claim7.holds Tryz.pinned (.plain (OpenSpec.upto scriptBackSpec)) scriptBackUptoCard

/-- THE SECOND FORM's CARD OF 'instarlaw22.ScriptReads'. -/
def scriptReadsUptoCard : Claim7 := { stood := { row := scriptReadsUptoRow, standIns := [], harness := (true, "4baf01da366c9b472918be08ecdebf54c0a97773b57b3421c9e936bf9ad69bfc"), looks := true }, kinds := [], alts := [], laidByText := true, laidKinds := [.data, .data, .data, .sentinel, .sentinel, .listed, .data], laidTests := true, laidLooks := .later }
def ScriptReadsUptoCardSaid : Prop := Claim7.holds Tryz.pinned (.plain (OpenSpec.upto scriptReadsSpec)) scriptReadsUptoCard

/-- THE SECOND FORM's CARD OF 'instarlaw22.ScriptMain'. -/
def scriptMainUptoCard : Claim7 := { stood := { row := scriptMainUptoRow, standIns := [], harness := (true, "4baf01da366c9b472918be08ecdebf54c0a97773b57b3421c9e936bf9ad69bfc"), looks := true }, kinds := [], alts := [], laidByText := true, laidKinds := [.data, .data, .data, .sentinel, .sentinel, .listed, .data], laidTests := true, laidLooks := .later }
def ScriptMainUptoCardSaid : Prop := Claim7.holds Tryz.pinned (.plain (OpenSpec.upto scriptMainSpec)) scriptMainUptoCard

/-- THE SECOND FORM's CARD OF 'instarlaw22.ScriptClass'. -/
def scriptClassUptoCard : Claim7 := { stood := { row := scriptClassUptoRow, standIns := [], harness := (true, "4baf01da366c9b472918be08ecdebf54c0a97773b57b3421c9e936bf9ad69bfc"), looks := true }, kinds := [], alts := [], laidByText := true, laidKinds := [.data, .data, .data, .sentinel, .sentinel, .listed, .data], laidTests := true, laidLooks := .later }
def ScriptClassUptoCardSaid : Prop := Claim7.holds Tryz.pinned (.plain (OpenSpec.upto scriptClassSpec)) scriptClassUptoCard

/-- THE SECOND FORM's CARD OF 'instarlaw22.ScriptMore'. -/
def scriptMoreUptoCard : Claim7 := { stood := { row := scriptMoreUptoRow, standIns := [], harness := (true, "4baf01da366c9b472918be08ecdebf54c0a97773b57b3421c9e936bf9ad69bfc"), looks := true }, kinds := [], alts := [], laidByText := true, laidKinds := [.data, .data, .data, .sentinel, .sentinel, .listed, .data], laidTests := true, laidLooks := .later }
def ScriptMoreUptoCardSaid : Prop := Claim7.holds Tryz.pinned (.plain (OpenSpec.upto scriptMoreSpec)) scriptMoreUptoCard
end Rows
end Go.Proofs.YtoboimmgglnjfaaGreatDoor
