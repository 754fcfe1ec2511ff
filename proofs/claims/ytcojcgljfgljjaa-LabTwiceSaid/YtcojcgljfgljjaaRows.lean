/-
  No cell of these rows narrows 'for every input' (looked for: loops, veiled, ifaces, maps, wideKeys, modest, calm, conditions, laid).
  DERIVED. THE GIVEN ROWS OF THIS SEAT. 3 by the template 'for every input the law returns true; each argument reads behind the call as it read before'; 0 by the template 'total and deterministic' (their statements: YtcojcgljfgljjaaTotals.lean).
  GIVEN WITH THE SEED: the statements are not yours to turn. If you find one false, say at which input.
  Laid BY PROGRAM, IN A SANDBOX (cutbox-rows.mjs): the forced cells as the released guide's own fill.sh prints them over the translation 0eb6cb99b9fbdf84… (all of the seat's roots in one cut). By AI agents, Wed Nov 11 2026. No macro, syntax, notation, axiom, sorry.
-/
import Derived.Test.YtcojcgljfgljjaaChecked
import GoSem.Claim
import GoSem.ClaimJoined
import GoSem.ClaimMapViews
import Derived.JoinedTies
import Derived.KernelRfl
namespace Go.Proofs.Ytcojcgljfgljjaa
/- THE CELL 'sum', in the pinned program and in every row, IS THE sha256 OF THE DUMP (.gsa) THAT YtcojcgljfgljjaaProg.lean LOADS. Nothing in Lean hashes anything: it is a label: what it is worth is what the hold of that sum in a sandbox is worth. -/
noncomputable def Try.pinned : Pinned := { name := "ytcojcgljfgljjaa", sum := "0eb6cb99b9fbdf841a8034604a83fbcf5e3eaa592c652dbf6a169dc08e933b37", checked := Try.checked }
namespace Rows
def none {H : Type} : Left H := { results := [], args := [] }

/-- 'instarlaw25.LabRight': WHATEVER THE INPUT: true; the input reads as it did. -/
def labRightSpec : ChangeSpec := { name := "labRight", fn := fun _ => fun
  | [d1, d2, d3, d4, d5, d6, d7] => { results := [.lit (.bool true)], args := [d1, d2, d3, d4, d5, d6, d7] }
  | _ => none }
def labRightRow : OpenClaim := { program := "ytcojcgljfgljjaa", sum := "0eb6cb99b9fbdf841a8034604a83fbcf5e3eaa592c652dbf6a169dc08e933b37", func := "instar/instarlaw25.LabRight", spec := "labRight", inPlace := ["internal/bytealg.IndexByteString", "internal/bytealg.IndexString"], unfollowed := true, recurses := true, named := ["internal/bytealg.MaxLen"], apart := false }
def LabRightSaid : Prop := labRightRow.holds Try.pinned (OpenSpec.ofChange labRightSpec)

/-- ITS FALSE NEIGHBOUR: 'it returns false'. Refute it at one input. -/
def labRightWrong : ChangeSpec := { name := "labRight", fn := fun _ => fun
  | [d1, d2, d3, d4, d5, d6, d7] => { results := [.lit (.bool false)], args := [d1, d2, d3, d4, d5, d6, d7] }
  | _ => none }
def LabRightWrongFalsely : Prop := labRightRow.holds Try.pinned (OpenSpec.ofChange labRightWrong)

/-- 'instarlaw25.LabKeeps': WHATEVER THE INPUT: true; the input reads as it did. -/
def labKeepsSpec : ChangeSpec := { name := "labKeeps", fn := fun _ => fun
  | [d1, d2, d3, d4, d5] => { results := [.lit (.bool true)], args := [d1, d2, d3, d4, d5] }
  | _ => none }
def labKeepsRow : OpenClaim := { program := "ytcojcgljfgljjaa", sum := "0eb6cb99b9fbdf841a8034604a83fbcf5e3eaa592c652dbf6a169dc08e933b37", func := "instar/instarlaw25.LabKeeps", spec := "labKeeps", inPlace := ["internal/bytealg.IndexByteString", "internal/bytealg.IndexString"], unfollowed := true, recurses := true, named := ["internal/bytealg.MaxLen"], apart := false }
def LabKeepsSaid : Prop := labKeepsRow.holds Try.pinned (OpenSpec.ofChange labKeepsSpec)

/-- ITS FALSE NEIGHBOUR: 'it returns false'. Refute it at one input. -/
def labKeepsWrong : ChangeSpec := { name := "labKeeps", fn := fun _ => fun
  | [d1, d2, d3, d4, d5] => { results := [.lit (.bool false)], args := [d1, d2, d3, d4, d5] }
  | _ => none }
def LabKeepsWrongFalsely : Prop := labKeepsRow.holds Try.pinned (OpenSpec.ofChange labKeepsWrong)

/-- 'instarlaw25.LabTwice': WHATEVER THE INPUT: true; the input reads as it did. -/
def labTwiceSpec : ChangeSpec := { name := "labTwice", fn := fun _ => fun
  | [d1, d2, d3, d4, d5, d6, d7] => { results := [.lit (.bool true)], args := [d1, d2, d3, d4, d5, d6, d7] }
  | _ => none }
def labTwiceRow : OpenClaim := { program := "ytcojcgljfgljjaa", sum := "0eb6cb99b9fbdf841a8034604a83fbcf5e3eaa592c652dbf6a169dc08e933b37", func := "instar/instarlaw25.LabTwice", spec := "labTwice", inPlace := ["internal/bytealg.IndexByteString", "internal/bytealg.IndexString"], unfollowed := true, recurses := true, named := ["internal/bytealg.MaxLen"], apart := false }
def LabTwiceSaid : Prop := labTwiceRow.holds Try.pinned (OpenSpec.ofChange labTwiceSpec)

/-- ITS FALSE NEIGHBOUR: 'it returns false'. Refute it at one input. -/
def labTwiceWrong : ChangeSpec := { name := "labTwice", fn := fun _ => fun
  | [d1, d2, d3, d4, d5, d6, d7] => { results := [.lit (.bool false)], args := [d1, d2, d3, d4, d5, d6, d7] }
  | _ => none }
def LabTwiceWrongFalsely : Prop := labTwiceRow.holds Try.pinned (OpenSpec.ofChange labTwiceWrong)

/- THE SECOND FORM. 'bulk': how many values and letters a reading holds, each counted each time it is reached (what is shared counts as often as it is met; a slice's spare places count too). A statement '..UptoSaid' is the law's where the arguments, and the package variables that the reading takes, are together of bulk at most 1048576: NARROWER than '..Said'. Prove '..Said' where nothing that the law and all that it calls make is longer than what came in: it says more and counts as full. Else prove '..UptoSaid'. A law counts once. -/
mutual
def uptoBulk {H : Type} : DataW H → Nat
  | .lit (.string bytes) => bytes.length + 1
  | .lit _ => 1
  | .nil => 1
  | .ptr d => uptoBulk d + 1
  | .slice elems spare => uptoBulkAll elems + uptoBulkAll spare + 1
  | .agg parts => uptoBulkAll parts + 1
  | .iface _ d => uptoBulk d + 1
  | .map entries => uptoBulkEntries entries + 1
  | .held _ => 1
def uptoBulkAll {H : Type} : List (DataW H) → Nat
  | [] => 0
  | d :: r => uptoBulk d + uptoBulkAll r
def uptoBulkEntries {H : Type} : List (Lit × DataW H) → Nat
  | [] => 0
  | x :: r => uptoBulkEntry x + uptoBulkEntries r
def uptoBulkEntry {H : Type} : Lit × DataW H → Nat
  | (.string bytes, d) => bytes.length + uptoBulk d + 1
  | (_, d) => uptoBulk d + 1
 end
def uptoSmall : (H : Type) → List (DataW H) → Bool := fun _ ds => decide (uptoBulkAll ds ≤ 1048576)
def OpenSpec.upto (s : _root_.Go.ChangeSpec) : _root_.Go.OpenSpec := { _root_.Go.OpenSpec.ofChange s with cond := some uptoSmall }

/-- 'instarlaw25.LabRight', WHERE WHAT IT READS IS OF BULK AT MOST 1048576: true; the input reads as it did. -/
def labRightUptoRow : OpenClaim := { program := "ytcojcgljfgljjaa", sum := "0eb6cb99b9fbdf841a8034604a83fbcf5e3eaa592c652dbf6a169dc08e933b37", func := "instar/instarlaw25.LabRight", spec := "labRight", inPlace := ["internal/bytealg.IndexByteString", "internal/bytealg.IndexString"], unfollowed := true, recurses := true, named := ["internal/bytealg.MaxLen"], apart := false, narrowed := true }
def LabRightUptoSaid : Prop := labRightUptoRow.holds Try.pinned (OpenSpec.upto labRightSpec)

/-- 'instarlaw25.LabKeeps', WHERE WHAT IT READS IS OF BULK AT MOST 1048576: true; the input reads as it did. -/
def labKeepsUptoRow : OpenClaim := { program := "ytcojcgljfgljjaa", sum := "0eb6cb99b9fbdf841a8034604a83fbcf5e3eaa592c652dbf6a169dc08e933b37", func := "instar/instarlaw25.LabKeeps", spec := "labKeeps", inPlace := ["internal/bytealg.IndexByteString", "internal/bytealg.IndexString"], unfollowed := true, recurses := true, named := ["internal/bytealg.MaxLen"], apart := false, narrowed := true }
def LabKeepsUptoSaid : Prop := labKeepsUptoRow.holds Try.pinned (OpenSpec.upto labKeepsSpec)

/-- 'instarlaw25.LabTwice', WHERE WHAT IT READS IS OF BULK AT MOST 1048576: true; the input reads as it did. -/
def labTwiceUptoRow : OpenClaim := { program := "ytcojcgljfgljjaa", sum := "0eb6cb99b9fbdf841a8034604a83fbcf5e3eaa592c652dbf6a169dc08e933b37", func := "instar/instarlaw25.LabTwice", spec := "labTwice", inPlace := ["internal/bytealg.IndexByteString", "internal/bytealg.IndexString"], unfollowed := true, recurses := true, named := ["internal/bytealg.MaxLen"], apart := false, narrowed := true }
def LabTwiceUptoSaid : Prop := labTwiceUptoRow.holds Try.pinned (OpenSpec.upto labTwiceSpec)

end Rows
end Go.Proofs.Ytcojcgljfgljjaa
