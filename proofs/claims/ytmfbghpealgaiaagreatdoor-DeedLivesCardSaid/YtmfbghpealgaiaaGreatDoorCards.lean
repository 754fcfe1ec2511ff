/-
  DERIVED. GIVEN WITH THE SEED: THE CARDS: each row of YtmfbghpealgaiaaGreatDoorRows.lean that lists a variable, with what it lists TIED to the program's text (the seventh form; the later family's looks); each row that meets fmt, with fmt's text TOLD by the authors' own Lean function (tested against real Go, not proved from fmt's source: count such statements apart). THE CARD IS WHAT COUNTS. Prove the row's statement (the work); the ties are given (YtmfbghpealgaiaaGreatDoorTie.lean); close each card by the builder's one call (the guide's Derived/Test/ToyasCard.lean, 'card_holds'). Laid BY PROGRAM, IN A SANDBOX (cutbox-door.mjs). By AI agents, Wed Nov 11 2026. No macro, syntax, notation, axiom, sorry.
-/
import Derived.Test.YtmfbghpealgaiaaGreatDoorRows
import GoSem.ClaimSeven
namespace Go.Proofs.YtmfbghpealgaiaaGreatDoor
namespace Rows

/-- THE TIED CARD OF 'instarlaw18.DeedKeeps'. -/
def deedKeepsCard : Claim7 := { stood := { row := deedKeepsRow, standIns := [], harness := (true, "75eafde95c51370e900b1eb250dff179dfcfdbf9f3acfce4c6f0d97fb3c90e25"), looks := true }, kinds := [], alts := [], laidByText := true, laidKinds := [.handle, .listed, .data], laidTests := true, laidLooks := .later }
def DeedKeepsCardSaid : Prop := Claim7.holds Tryz.pinned (.plain (OpenSpec.ofChange deedKeepsSpec)) deedKeepsCard

/-- THE TIED CARD OF 'instarlaw18.DeedHands'. -/
def deedHandsCard : Claim7 := { stood := { row := deedHandsRow, standIns := [], harness := (true, "75eafde95c51370e900b1eb250dff179dfcfdbf9f3acfce4c6f0d97fb3c90e25"), looks := true }, kinds := [], alts := [], laidByText := true, laidKinds := [.handle, .listed, .data], laidTests := true, laidLooks := .later }
def DeedHandsCardSaid : Prop := Claim7.holds Tryz.pinned (.plain (OpenSpec.ofChange deedHandsSpec)) deedHandsCard

/-- THE TIED CARD OF 'instarlaw18.DeedLives'. -/
def deedLivesCard : Claim7 := { stood := { row := deedLivesRow, standIns := [], harness := (true, "75eafde95c51370e900b1eb250dff179dfcfdbf9f3acfce4c6f0d97fb3c90e25"), looks := true }, kinds := [], alts := [], laidByText := true, laidKinds := [.handle, .listed, .data], laidTests := true, laidLooks := .later }
def DeedLivesCardSaid : Prop := Claim7.holds Tryz.pinned (.plain (OpenSpec.ofChange deedLivesSpec)) deedLivesCard

/-- THE TIED CARD OF 'instarlaw18.DeedUndoes'. -/
def deedUndoesCard : Claim7 := { stood := { row := deedUndoesRow, standIns := [], harness := (true, "75eafde95c51370e900b1eb250dff179dfcfdbf9f3acfce4c6f0d97fb3c90e25"), looks := true }, kinds := [], alts := [], laidByText := true, laidKinds := [.handle, .listed, .data], laidTests := true, laidLooks := .later }
def DeedUndoesCardSaid : Prop := Claim7.holds Tryz.pinned (.plain (OpenSpec.ofChange deedUndoesSpec)) deedUndoesCard

/-- THE TIED CARD OF 'instarlaw18.DeedCalm'. -/
def deedCalmCard : Claim7 := { stood := { row := deedCalmRow, standIns := [], harness := (true, "75eafde95c51370e900b1eb250dff179dfcfdbf9f3acfce4c6f0d97fb3c90e25"), looks := true }, kinds := [], alts := [], laidByText := true, laidKinds := [.handle, .listed, .data], laidTests := true, laidLooks := .later }
def DeedCalmCardSaid : Prop := Claim7.holds Tryz.pinned (.plain (OpenSpec.ofChange deedCalmSpec)) deedCalmCard

/-- THE SECOND FORM's CARD OF 'instarlaw18.DeedKeeps'. -/
def deedKeepsUptoCard : Claim7 := { stood := { row := deedKeepsUptoRow, standIns := [], harness := (true, "75eafde95c51370e900b1eb250dff179dfcfdbf9f3acfce4c6f0d97fb3c90e25"), looks := true }, kinds := [], alts := [], laidByText := true, laidKinds := [.handle, .listed, .data], laidTests := true, laidLooks := .later }
def DeedKeepsUptoCardSaid : Prop := Claim7.holds Tryz.pinned (.plain (OpenSpec.upto deedKeepsSpec)) deedKeepsUptoCard

/-- THE SECOND FORM's CARD OF 'instarlaw18.DeedHands'. -/
def deedHandsUptoCard : Claim7 := { stood := { row := deedHandsUptoRow, standIns := [], harness := (true, "75eafde95c51370e900b1eb250dff179dfcfdbf9f3acfce4c6f0d97fb3c90e25"), looks := true }, kinds := [], alts := [], laidByText := true, laidKinds := [.handle, .listed, .data], laidTests := true, laidLooks := .later }
def DeedHandsUptoCardSaid : Prop := Claim7.holds Tryz.pinned (.plain (OpenSpec.upto deedHandsSpec)) deedHandsUptoCard

/-- THE SECOND FORM's CARD OF 'instarlaw18.DeedLives'. -/
def deedLivesUptoCard : Claim7 := { stood := { row := deedLivesUptoRow, standIns := [], harness := (true, "75eafde95c51370e900b1eb250dff179dfcfdbf9f3acfce4c6f0d97fb3c90e25"), looks := true }, kinds := [], alts := [], laidByText := true, laidKinds := [.handle, .listed, .data], laidTests := true, laidLooks := .later }
def DeedLivesUptoCardSaid : Prop := Claim7.holds Tryz.pinned (.plain (OpenSpec.upto deedLivesSpec)) deedLivesUptoCard

/-- THE SECOND FORM's CARD OF 'instarlaw18.DeedUndoes'. -/
def deedUndoesUptoCard : Claim7 := { stood := { row := deedUndoesUptoRow, standIns := [], harness := (true, "75eafde95c51370e900b1eb250dff179dfcfdbf9f3acfce4c6f0d97fb3c90e25"), looks := true }, kinds := [], alts := [], laidByText := true, laidKinds := [.handle, .listed, .data], laidTests := true, laidLooks := .later }
def DeedUndoesUptoCardSaid : Prop := Claim7.holds Tryz.pinned (.plain (OpenSpec.upto deedUndoesSpec)) deedUndoesUptoCard

/-- THE SECOND FORM's CARD OF 'instarlaw18.DeedCalm'. -/
def deedCalmUptoCard : Claim7 := { stood := { row := deedCalmUptoRow, standIns := [], harness := (true, "75eafde95c51370e900b1eb250dff179dfcfdbf9f3acfce4c6f0d97fb3c90e25"), looks := true }, kinds := [], alts := [], laidByText := true, laidKinds := [.handle, .listed, .data], laidTests := true, laidLooks := .later }
def DeedCalmUptoCardSaid : Prop := Claim7.holds Tryz.pinned (.plain (OpenSpec.upto deedCalmSpec)) deedCalmUptoCard
end Rows
end Go.Proofs.YtmfbghpealgaiaaGreatDoor
