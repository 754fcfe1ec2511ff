/- What the library's functions answer, as plain functions of data, and their contracts over the shelf's. -/
import Derived.Test.YtkngnghbnhgfjaaGreatShl
import Derived.Test.YtkngnghbnhgfjaaGreatQuo5
namespace Go.Proofs.YtkngnghbnhgfjaaGreat
open Go Go.Pw
abbrev Bs := List UInt8
/-- What start-up code has laid: nothing that is needed. -/
def laidL : World → Prop := fun _ => True

def quote_m (_fu : Nat) (s : Bs) : Option Bs := if s.length ≤ 1000000000 then some (34 :: quoL s ++ [34]) else none
theorem quote_ok (fu : Nat) (s : Bs) : ∀ r, quote_m fu s = some r → DC laidL Tryz.prog 13 [.v (.string ⟨⟨s⟩⟩)] (.v (.string ⟨⟨r⟩⟩)) := by
  intro r hr
  unfold quote_m at hr
  split at hr
  · rename_i h
    cases hr
    refine dc_below (us := [.string ⟨⟨s⟩⟩]) rfl rfl fun w hl => ?_
    refine (quote_ ⟨⟨s⟩⟩ h w).mono ?_
    rintro e w' ⟨rfl, hb⟩
    exact ⟨_, rfl, ⟨hb.os, hb.tape, hb.output, hb.size, hb.block⟩, .v rfl⟩
  · cases hr
end Go.Proofs.YtkngnghbnhgfjaaGreat
