/-
  No cell of these rows narrows 'for every input' (looked for: loops, veiled, ifaces, maps, wideKeys, modest, calm, conditions, laid).
  DERIVED. THE GIVEN ROWS OF THIS SEAT. 11 by the template 'for every input the law returns true; each argument reads behind the call as it read before'; 0 by the template 'total and deterministic' (their statements: YtcaepigodglihaaTotals.lean).
  GIVEN WITH THE SEED: the statements are not yours to turn. If you find one false, say at which input.
  Laid BY PROGRAM, IN A SANDBOX (cutbox-rows.mjs): the forced cells as the released guide's own fill.sh prints them over the translation 5ac6ca909f1b8a3d… (all of the seat's roots in one cut). By AI agents, Wed Nov 11 2026. No macro, syntax, notation, axiom, sorry.
-/
import Derived.Test.YtcaepigodglihaaChecked
import GoSem.Claim
import GoSem.ClaimJoined
import GoSem.ClaimMapViews
import Derived.JoinedTies
import Derived.KernelRfl
namespace Go.Proofs.Ytcaepigodglihaa
/- THE CELL 'sum', in the pinned program and in every row, IS THE sha256 OF THE DUMP (.gsa) THAT YtcaepigodglihaaProg.lean LOADS. Nothing in Lean hashes anything: it is a label: what it is worth is what the hold of that sum in a sandbox is worth. -/
noncomputable def Try.pinned : Pinned := { name := "ytcaepigodglihaa", sum := "5ac6ca909f1b8a3ddb6cf58f51c54f5670065dd6e640273e3113bb153445823b", checked := Try.checked }
namespace Rows
def none {H : Type} : Left H := { results := [], args := [] }

/-- 'instarlaw03.ForestRight': WHATEVER THE INPUT: true; the input reads as it did. -/
def forestRightSpec : ChangeSpec := { name := "forestRight", fn := fun _ => fun
  | [d1, d2, d3, d4, d5] => { results := [.lit (.bool true)], args := [d1, d2, d3, d4, d5] }
  | _ => none }
def forestRightRow : OpenClaim := { program := "ytcaepigodglihaa", sum := "5ac6ca909f1b8a3ddb6cf58f51c54f5670065dd6e640273e3113bb153445823b", func := "instar/instarlaw03.ForestRight", spec := "forestRight", inPlace := ["internal/bytealg.IndexByteString", "internal/bytealg.IndexString"], unfollowed := true, recurses := true, named := ["internal/bytealg.MaxLen"], apart := false }
def ForestRightSaid : Prop := forestRightRow.holds Try.pinned (OpenSpec.ofChange forestRightSpec)

/-- ITS FALSE NEIGHBOUR: 'it returns false'. Refute it at one input. -/
def forestRightWrong : ChangeSpec := { name := "forestRight", fn := fun _ => fun
  | [d1, d2, d3, d4, d5] => { results := [.lit (.bool false)], args := [d1, d2, d3, d4, d5] }
  | _ => none }
def ForestRightWrongFalsely : Prop := forestRightRow.holds Try.pinned (OpenSpec.ofChange forestRightWrong)

/-- 'instarlaw03.ForestOrder': WHATEVER THE INPUT: true; the input reads as it did. -/
def forestOrderSpec : ChangeSpec := { name := "forestOrder", fn := fun _ => fun
  | [d1, d2, d3] => { results := [.lit (.bool true)], args := [d1, d2, d3] }
  | _ => none }
def forestOrderRow : OpenClaim := { program := "ytcaepigodglihaa", sum := "5ac6ca909f1b8a3ddb6cf58f51c54f5670065dd6e640273e3113bb153445823b", func := "instar/instarlaw03.ForestOrder", spec := "forestOrder", inPlace := ["internal/bytealg.IndexByteString", "internal/bytealg.IndexString"], unfollowed := true, recurses := true, named := ["internal/bytealg.MaxLen"], apart := false }
def ForestOrderSaid : Prop := forestOrderRow.holds Try.pinned (OpenSpec.ofChange forestOrderSpec)

/-- ITS FALSE NEIGHBOUR: 'it returns false'. Refute it at one input. -/
def forestOrderWrong : ChangeSpec := { name := "forestOrder", fn := fun _ => fun
  | [d1, d2, d3] => { results := [.lit (.bool false)], args := [d1, d2, d3] }
  | _ => none }
def ForestOrderWrongFalsely : Prop := forestOrderRow.holds Try.pinned (OpenSpec.ofChange forestOrderWrong)

/-- 'instarlaw03.ForestMakes': WHATEVER THE INPUT: true; the input reads as it did. -/
def forestMakesSpec : ChangeSpec := { name := "forestMakes", fn := fun _ => fun
  | [d1, d2] => { results := [.lit (.bool true)], args := [d1, d2] }
  | _ => none }
def forestMakesRow : OpenClaim := { program := "ytcaepigodglihaa", sum := "5ac6ca909f1b8a3ddb6cf58f51c54f5670065dd6e640273e3113bb153445823b", func := "instar/instarlaw03.ForestMakes", spec := "forestMakes", inPlace := ["internal/bytealg.IndexByteString", "internal/bytealg.IndexString"], unfollowed := true, recurses := true, named := ["internal/bytealg.MaxLen"], apart := false }
def ForestMakesSaid : Prop := forestMakesRow.holds Try.pinned (OpenSpec.ofChange forestMakesSpec)

/-- ITS FALSE NEIGHBOUR: 'it returns false'. Refute it at one input. -/
def forestMakesWrong : ChangeSpec := { name := "forestMakes", fn := fun _ => fun
  | [d1, d2] => { results := [.lit (.bool false)], args := [d1, d2] }
  | _ => none }
def ForestMakesWrongFalsely : Prop := forestMakesRow.holds Try.pinned (OpenSpec.ofChange forestMakesWrong)

/-- 'instarlaw03.ForestHolds': WHATEVER THE INPUT: true; the input reads as it did. -/
def forestHoldsSpec : ChangeSpec := { name := "forestHolds", fn := fun _ => fun
  | [d1, d2, d3, d4] => { results := [.lit (.bool true)], args := [d1, d2, d3, d4] }
  | _ => none }
def forestHoldsRow : OpenClaim := { program := "ytcaepigodglihaa", sum := "5ac6ca909f1b8a3ddb6cf58f51c54f5670065dd6e640273e3113bb153445823b", func := "instar/instarlaw03.ForestHolds", spec := "forestHolds", inPlace := ["internal/bytealg.IndexByteString", "internal/bytealg.IndexString"], unfollowed := true, recurses := true, named := ["internal/bytealg.MaxLen"], apart := false }
def ForestHoldsSaid : Prop := forestHoldsRow.holds Try.pinned (OpenSpec.ofChange forestHoldsSpec)

/-- ITS FALSE NEIGHBOUR: 'it returns false'. Refute it at one input. -/
def forestHoldsWrong : ChangeSpec := { name := "forestHolds", fn := fun _ => fun
  | [d1, d2, d3, d4] => { results := [.lit (.bool false)], args := [d1, d2, d3, d4] }
  | _ => none }
def ForestHoldsWrongFalsely : Prop := forestHoldsRow.holds Try.pinned (OpenSpec.ofChange forestHoldsWrong)

/-- 'instarlaw04.ShadeRight': WHATEVER THE INPUT: true; the input reads as it did. -/
def shadeRightSpec : ChangeSpec := { name := "shadeRight", fn := fun _ => fun
  | [d1, d2, d3] => { results := [.lit (.bool true)], args := [d1, d2, d3] }
  | _ => none }
def shadeRightRow : OpenClaim := { program := "ytcaepigodglihaa", sum := "5ac6ca909f1b8a3ddb6cf58f51c54f5670065dd6e640273e3113bb153445823b", func := "instar/instarlaw04.ShadeRight", spec := "shadeRight", inPlace := ["internal/bytealg.IndexByteString", "internal/bytealg.IndexString"], unfollowed := true, recurses := true, named := ["internal/bytealg.MaxLen"], apart := false }
def ShadeRightSaid : Prop := shadeRightRow.holds Try.pinned (OpenSpec.ofChange shadeRightSpec)

/-- ITS FALSE NEIGHBOUR: 'it returns false'. Refute it at one input. -/
def shadeRightWrong : ChangeSpec := { name := "shadeRight", fn := fun _ => fun
  | [d1, d2, d3] => { results := [.lit (.bool false)], args := [d1, d2, d3] }
  | _ => none }
def ShadeRightWrongFalsely : Prop := shadeRightRow.holds Try.pinned (OpenSpec.ofChange shadeRightWrong)

/-- 'instarlaw05.ValidSwap': WHATEVER THE INPUT: true; the input reads as it did. -/
def validSwapSpec : ChangeSpec := { name := "validSwap", fn := fun _ => fun
  | [d1, d2, d3, d4] => { results := [.lit (.bool true)], args := [d1, d2, d3, d4] }
  | _ => none }
def validSwapRow : OpenClaim := { program := "ytcaepigodglihaa", sum := "5ac6ca909f1b8a3ddb6cf58f51c54f5670065dd6e640273e3113bb153445823b", func := "instar/instarlaw05.ValidSwap", spec := "validSwap", inPlace := ["internal/bytealg.IndexByteString", "internal/bytealg.IndexString"], unfollowed := true, recurses := true, named := ["internal/bytealg.MaxLen"], apart := false }
def ValidSwapSaid : Prop := validSwapRow.holds Try.pinned (OpenSpec.ofChange validSwapSpec)

/-- ITS FALSE NEIGHBOUR: 'it returns false'. Refute it at one input. -/
def validSwapWrong : ChangeSpec := { name := "validSwap", fn := fun _ => fun
  | [d1, d2, d3, d4] => { results := [.lit (.bool false)], args := [d1, d2, d3, d4] }
  | _ => none }
def ValidSwapWrongFalsely : Prop := validSwapRow.holds Try.pinned (OpenSpec.ofChange validSwapWrong)

/-- 'instarlaw05.ValidFree': WHATEVER THE INPUT: true; the input reads as it did. -/
def validFreeSpec : ChangeSpec := { name := "validFree", fn := fun _ => fun
  | [d1, d2, d3, d4] => { results := [.lit (.bool true)], args := [d1, d2, d3, d4] }
  | _ => none }
def validFreeRow : OpenClaim := { program := "ytcaepigodglihaa", sum := "5ac6ca909f1b8a3ddb6cf58f51c54f5670065dd6e640273e3113bb153445823b", func := "instar/instarlaw05.ValidFree", spec := "validFree", inPlace := ["internal/bytealg.IndexByteString", "internal/bytealg.IndexString"], unfollowed := true, recurses := true, named := ["internal/bytealg.MaxLen"], apart := false }
def ValidFreeSaid : Prop := validFreeRow.holds Try.pinned (OpenSpec.ofChange validFreeSpec)

/-- ITS FALSE NEIGHBOUR: 'it returns false'. Refute it at one input. -/
def validFreeWrong : ChangeSpec := { name := "validFree", fn := fun _ => fun
  | [d1, d2, d3, d4] => { results := [.lit (.bool false)], args := [d1, d2, d3, d4] }
  | _ => none }
def ValidFreeWrongFalsely : Prop := validFreeRow.holds Try.pinned (OpenSpec.ofChange validFreeWrong)

/-- 'instarlaw04.ShadeOver': WHATEVER THE INPUT: true; the input reads as it did. -/
def shadeOverSpec : ChangeSpec := { name := "shadeOver", fn := fun _ => fun
  | [d1, d2, d3, d4] => { results := [.lit (.bool true)], args := [d1, d2, d3, d4] }
  | _ => none }
def shadeOverRow : OpenClaim := { program := "ytcaepigodglihaa", sum := "5ac6ca909f1b8a3ddb6cf58f51c54f5670065dd6e640273e3113bb153445823b", func := "instar/instarlaw04.ShadeOver", spec := "shadeOver", inPlace := ["internal/bytealg.IndexByteString", "internal/bytealg.IndexString"], unfollowed := true, recurses := true, named := ["internal/bytealg.MaxLen"], apart := false }
def ShadeOverSaid : Prop := shadeOverRow.holds Try.pinned (OpenSpec.ofChange shadeOverSpec)

/-- ITS FALSE NEIGHBOUR: 'it returns false'. Refute it at one input. -/
def shadeOverWrong : ChangeSpec := { name := "shadeOver", fn := fun _ => fun
  | [d1, d2, d3, d4] => { results := [.lit (.bool false)], args := [d1, d2, d3, d4] }
  | _ => none }
def ShadeOverWrongFalsely : Prop := shadeOverRow.holds Try.pinned (OpenSpec.ofChange shadeOverWrong)

/-- 'instarlaw04.ShadeAttached': WHATEVER THE INPUT: true; the input reads as it did. -/
def shadeAttachedSpec : ChangeSpec := { name := "shadeAttached", fn := fun _ => fun
  | [d1, d2, d3] => { results := [.lit (.bool true)], args := [d1, d2, d3] }
  | _ => none }
def shadeAttachedRow : OpenClaim := { program := "ytcaepigodglihaa", sum := "5ac6ca909f1b8a3ddb6cf58f51c54f5670065dd6e640273e3113bb153445823b", func := "instar/instarlaw04.ShadeAttached", spec := "shadeAttached", inPlace := ["internal/bytealg.IndexByteString", "internal/bytealg.IndexString"], unfollowed := true, recurses := true, named := ["internal/bytealg.MaxLen"], apart := false }
def ShadeAttachedSaid : Prop := shadeAttachedRow.holds Try.pinned (OpenSpec.ofChange shadeAttachedSpec)

/-- ITS FALSE NEIGHBOUR: 'it returns false'. Refute it at one input. -/
def shadeAttachedWrong : ChangeSpec := { name := "shadeAttached", fn := fun _ => fun
  | [d1, d2, d3] => { results := [.lit (.bool false)], args := [d1, d2, d3] }
  | _ => none }
def ShadeAttachedWrongFalsely : Prop := shadeAttachedRow.holds Try.pinned (OpenSpec.ofChange shadeAttachedWrong)

/-- 'instarlaw04.ShadeAll': WHATEVER THE INPUT: true; the input reads as it did. -/
def shadeAllSpec : ChangeSpec := { name := "shadeAll", fn := fun _ => fun
  | [d1, d2] => { results := [.lit (.bool true)], args := [d1, d2] }
  | _ => none }
def shadeAllRow : OpenClaim := { program := "ytcaepigodglihaa", sum := "5ac6ca909f1b8a3ddb6cf58f51c54f5670065dd6e640273e3113bb153445823b", func := "instar/instarlaw04.ShadeAll", spec := "shadeAll", inPlace := ["internal/bytealg.IndexByteString", "internal/bytealg.IndexString"], unfollowed := true, recurses := true, named := ["internal/bytealg.MaxLen"], apart := false }
def ShadeAllSaid : Prop := shadeAllRow.holds Try.pinned (OpenSpec.ofChange shadeAllSpec)

/-- ITS FALSE NEIGHBOUR: 'it returns false'. Refute it at one input. -/
def shadeAllWrong : ChangeSpec := { name := "shadeAll", fn := fun _ => fun
  | [d1, d2] => { results := [.lit (.bool false)], args := [d1, d2] }
  | _ => none }
def ShadeAllWrongFalsely : Prop := shadeAllRow.holds Try.pinned (OpenSpec.ofChange shadeAllWrong)

/-- 'instarlaw05.ValidPut': WHATEVER THE INPUT: true; the input reads as it did. -/
def validPutSpec : ChangeSpec := { name := "validPut", fn := fun _ => fun
  | [d1, d2, d3, d4, d5] => { results := [.lit (.bool true)], args := [d1, d2, d3, d4, d5] }
  | _ => none }
def validPutRow : OpenClaim := { program := "ytcaepigodglihaa", sum := "5ac6ca909f1b8a3ddb6cf58f51c54f5670065dd6e640273e3113bb153445823b", func := "instar/instarlaw05.ValidPut", spec := "validPut", inPlace := ["internal/bytealg.IndexByteString", "internal/bytealg.IndexString"], unfollowed := true, recurses := true, named := ["internal/bytealg.MaxLen"], apart := false }
def ValidPutSaid : Prop := validPutRow.holds Try.pinned (OpenSpec.ofChange validPutSpec)

/-- ITS FALSE NEIGHBOUR: 'it returns false'. Refute it at one input. -/
def validPutWrong : ChangeSpec := { name := "validPut", fn := fun _ => fun
  | [d1, d2, d3, d4, d5] => { results := [.lit (.bool false)], args := [d1, d2, d3, d4, d5] }
  | _ => none }
def ValidPutWrongFalsely : Prop := validPutRow.holds Try.pinned (OpenSpec.ofChange validPutWrong)

/- THE SECOND FORM. 'bulk': how many values and letters a reading holds, each counted each time it is reached (what is shared counts as often as it is met; a slice's spare places count too). A statement '..UptoSaid' is the law's where the arguments, and the package variables that the reading takes, are together of bulk at most 1048576: NARROWER than '..Said'. Prove '..Said' where nothing that the law and all that it calls make is longer than what came in: it says more and counts as full. Else prove '..UptoSaid'. A law counts once. -/
mutual
def uptoBulk {H : Type} : DataW H → Nat
  | .lit (.string bytes) => bytes.length + 1
  | .lit _ => 1
  | .nil => 1
  | .ptr d => uptoBulk d + 1
  | .slice elems spare => uptoBulkAll elems + uptoBulkAll spare + 1
  | .agg parts => uptoBulkAll parts + 1
  | .iface _ d => uptoBulk d + 1
  | .map entries => uptoBulkEntries entries + 1
  | .held _ => 1
def uptoBulkAll {H : Type} : List (DataW H) → Nat
  | [] => 0
  | d :: r => uptoBulk d + uptoBulkAll r
def uptoBulkEntries {H : Type} : List (Lit × DataW H) → Nat
  | [] => 0
  | x :: r => uptoBulkEntry x + uptoBulkEntries r
def uptoBulkEntry {H : Type} : Lit × DataW H → Nat
  | (.string bytes, d) => bytes.length + uptoBulk d + 1
  | (_, d) => uptoBulk d + 1
 end
def uptoSmall : (H : Type) → List (DataW H) → Bool := fun _ ds => decide (uptoBulkAll ds ≤ 1048576)
def OpenSpec.upto (s : _root_.Go.ChangeSpec) : _root_.Go.OpenSpec := { _root_.Go.OpenSpec.ofChange s with cond := some uptoSmall }

/-- 'instarlaw03.ForestRight', WHERE WHAT IT READS IS OF BULK AT MOST 1048576: true; the input reads as it did. -/
def forestRightUptoRow : OpenClaim := { program := "ytcaepigodglihaa", sum := "5ac6ca909f1b8a3ddb6cf58f51c54f5670065dd6e640273e3113bb153445823b", func := "instar/instarlaw03.ForestRight", spec := "forestRight", inPlace := ["internal/bytealg.IndexByteString", "internal/bytealg.IndexString"], unfollowed := true, recurses := true, named := ["internal/bytealg.MaxLen"], apart := false, narrowed := true }
def ForestRightUptoSaid : Prop := forestRightUptoRow.holds Try.pinned (OpenSpec.upto forestRightSpec)

/-- 'instarlaw03.ForestOrder', WHERE WHAT IT READS IS OF BULK AT MOST 1048576: true; the input reads as it did. -/
def forestOrderUptoRow : OpenClaim := { program := "ytcaepigodglihaa", sum := "5ac6ca909f1b8a3ddb6cf58f51c54f5670065dd6e640273e3113bb153445823b", func := "instar/instarlaw03.ForestOrder", spec := "forestOrder", inPlace := ["internal/bytealg.IndexByteString", "internal/bytealg.IndexString"], unfollowed := true, recurses := true, named := ["internal/bytealg.MaxLen"], apart := false, narrowed := true }
def ForestOrderUptoSaid : Prop := forestOrderUptoRow.holds Try.pinned (OpenSpec.upto forestOrderSpec)

/-- 'instarlaw03.ForestMakes', WHERE WHAT IT READS IS OF BULK AT MOST 1048576: true; the input reads as it did. -/
def forestMakesUptoRow : OpenClaim := { program := "ytcaepigodglihaa", sum := "5ac6ca909f1b8a3ddb6cf58f51c54f5670065dd6e640273e3113bb153445823b", func := "instar/instarlaw03.ForestMakes", spec := "forestMakes", inPlace := ["internal/bytealg.IndexByteString", "internal/bytealg.IndexString"], unfollowed := true, recurses := true, named := ["internal/bytealg.MaxLen"], apart := false, narrowed := true }
def ForestMakesUptoSaid : Prop := forestMakesUptoRow.holds Try.pinned (OpenSpec.upto forestMakesSpec)

/-- 'instarlaw03.ForestHolds', WHERE WHAT IT READS IS OF BULK AT MOST 1048576: true; the input reads as it did. -/
def forestHoldsUptoRow : OpenClaim := { program := "ytcaepigodglihaa", sum := "5ac6ca909f1b8a3ddb6cf58f51c54f5670065dd6e640273e3113bb153445823b", func := "instar/instarlaw03.ForestHolds", spec := "forestHolds", inPlace := ["internal/bytealg.IndexByteString", "internal/bytealg.IndexString"], unfollowed := true, recurses := true, named := ["internal/bytealg.MaxLen"], apart := false, narrowed := true }
def ForestHoldsUptoSaid : Prop := forestHoldsUptoRow.holds Try.pinned (OpenSpec.upto forestHoldsSpec)

/-- 'instarlaw04.ShadeRight', WHERE WHAT IT READS IS OF BULK AT MOST 1048576: true; the input reads as it did. -/
def shadeRightUptoRow : OpenClaim := { program := "ytcaepigodglihaa", sum := "5ac6ca909f1b8a3ddb6cf58f51c54f5670065dd6e640273e3113bb153445823b", func := "instar/instarlaw04.ShadeRight", spec := "shadeRight", inPlace := ["internal/bytealg.IndexByteString", "internal/bytealg.IndexString"], unfollowed := true, recurses := true, named := ["internal/bytealg.MaxLen"], apart := false, narrowed := true }
def ShadeRightUptoSaid : Prop := shadeRightUptoRow.holds Try.pinned (OpenSpec.upto shadeRightSpec)

/-- 'instarlaw05.ValidSwap', WHERE WHAT IT READS IS OF BULK AT MOST 1048576: true; the input reads as it did. -/
def validSwapUptoRow : OpenClaim := { program := "ytcaepigodglihaa", sum := "5ac6ca909f1b8a3ddb6cf58f51c54f5670065dd6e640273e3113bb153445823b", func := "instar/instarlaw05.ValidSwap", spec := "validSwap", inPlace := ["internal/bytealg.IndexByteString", "internal/bytealg.IndexString"], unfollowed := true, recurses := true, named := ["internal/bytealg.MaxLen"], apart := false, narrowed := true }
def ValidSwapUptoSaid : Prop := validSwapUptoRow.holds Try.pinned (OpenSpec.upto validSwapSpec)

/-- 'instarlaw05.ValidFree', WHERE WHAT IT READS IS OF BULK AT MOST 1048576: true; the input reads as it did. -/
def validFreeUptoRow : OpenClaim := { program := "ytcaepigodglihaa", sum := "5ac6ca909f1b8a3ddb6cf58f51c54f5670065dd6e640273e3113bb153445823b", func := "instar/instarlaw05.ValidFree", spec := "validFree", inPlace := ["internal/bytealg.IndexByteString", "internal/bytealg.IndexString"], unfollowed := true, recurses := true, named := ["internal/bytealg.MaxLen"], apart := false, narrowed := true }
def ValidFreeUptoSaid : Prop := validFreeUptoRow.holds Try.pinned (OpenSpec.upto validFreeSpec)

/-- 'instarlaw04.ShadeOver', WHERE WHAT IT READS IS OF BULK AT MOST 1048576: true; the input reads as it did. -/
def shadeOverUptoRow : OpenClaim := { program := "ytcaepigodglihaa", sum := "5ac6ca909f1b8a3ddb6cf58f51c54f5670065dd6e640273e3113bb153445823b", func := "instar/instarlaw04.ShadeOver", spec := "shadeOver", inPlace := ["internal/bytealg.IndexByteString", "internal/bytealg.IndexString"], unfollowed := true, recurses := true, named := ["internal/bytealg.MaxLen"], apart := false, narrowed := true }
def ShadeOverUptoSaid : Prop := shadeOverUptoRow.holds Try.pinned (OpenSpec.upto shadeOverSpec)

/-- 'instarlaw04.ShadeAttached', WHERE WHAT IT READS IS OF BULK AT MOST 1048576: true; the input reads as it did. -/
def shadeAttachedUptoRow : OpenClaim := { program := "ytcaepigodglihaa", sum := "5ac6ca909f1b8a3ddb6cf58f51c54f5670065dd6e640273e3113bb153445823b", func := "instar/instarlaw04.ShadeAttached", spec := "shadeAttached", inPlace := ["internal/bytealg.IndexByteString", "internal/bytealg.IndexString"], unfollowed := true, recurses := true, named := ["internal/bytealg.MaxLen"], apart := false, narrowed := true }
def ShadeAttachedUptoSaid : Prop := shadeAttachedUptoRow.holds Try.pinned (OpenSpec.upto shadeAttachedSpec)

/-- 'instarlaw04.ShadeAll', WHERE WHAT IT READS IS OF BULK AT MOST 1048576: true; the input reads as it did. -/
def shadeAllUptoRow : OpenClaim := { program := "ytcaepigodglihaa", sum := "5ac6ca909f1b8a3ddb6cf58f51c54f5670065dd6e640273e3113bb153445823b", func := "instar/instarlaw04.ShadeAll", spec := "shadeAll", inPlace := ["internal/bytealg.IndexByteString", "internal/bytealg.IndexString"], unfollowed := true, recurses := true, named := ["internal/bytealg.MaxLen"], apart := false, narrowed := true }
def ShadeAllUptoSaid : Prop := shadeAllUptoRow.holds Try.pinned (OpenSpec.upto shadeAllSpec)

/-- 'instarlaw05.ValidPut', WHERE WHAT IT READS IS OF BULK AT MOST 1048576: true; the input reads as it did. -/
def validPutUptoRow : OpenClaim := { program := "ytcaepigodglihaa", sum := "5ac6ca909f1b8a3ddb6cf58f51c54f5670065dd6e640273e3113bb153445823b", func := "instar/instarlaw05.ValidPut", spec := "validPut", inPlace := ["internal/bytealg.IndexByteString", "internal/bytealg.IndexString"], unfollowed := true, recurses := true, named := ["internal/bytealg.MaxLen"], apart := false, narrowed := true }
def ValidPutUptoSaid : Prop := validPutUptoRow.holds Try.pinned (OpenSpec.upto validPutSpec)

end Rows
end Go.Proofs.Ytcaepigodglihaa
