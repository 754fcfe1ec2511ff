/- Ranges over strings.Lines. No program is named here. -/
import Derived.Test.YtkngnghbnhgfjaaGreatBack
import Derived.Lib.Bytealg
namespace Go.Pw
open Go

/-! ## Lines of a text -/
/-! ## The closure of strings.Lines -/
section lines
variable {P : Program} {T : Tab P} {L : World → Prop} {g : FuncId} {fn : Func} {r1 mid : Code} {tS tI tB tF : TypeId}

theorem two {E : List (Nat × Value)} {t : Nat} {v x y : Value} (h : lku [(0, x), (1, y)] t = some v) (h0 : lku E 0 = some x := by rfl) (h1 : lku E 1 = some y := by rfl) : lku E t = some v := by
  by_cases e0 : t = 0
  · subst e0; exact h0.trans h
  by_cases e1 : t = 1
  · subst e1; exact h1.trans h
  simp only [lku, beq_no (Ne.symm e0), beq_no (Ne.symm e1), cond_false] at h
  cases h

end lines

/-! ## The statement -/
section stmt
variable {ρ : Type} {G : Ctx ρ}

/-- How long a text may be. -/
def fits (s : List UInt8) : Option Unit := if s.length ≤ 9223372036854775807 then some () else none
end stmt
/-! ## strings.Lines itself -/
section
variable {ρ : Type} {G : Ctx ρ} {m : Option ρ} {K : List (Kont ρ)} {E : Env} {S : Store} {all : Array Oper}
end
end Go.Pw
