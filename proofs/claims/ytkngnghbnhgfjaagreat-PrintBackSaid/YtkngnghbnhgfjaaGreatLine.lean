/- Ranges over strings.Lines. No program is named here. -/
import Derived.Test.YtkngnghbnhgfjaaGreatBack
import Derived.Lib.Bytealg
namespace Go.Pw
open Go

/-! ## Lines of a text -/
/-! ## The closure of strings.Lines -/
section lines
variable {P : Program} {T : Tab P} {L : World → Prop} {g : FuncId} {fn : Func} {r1 mid : Code} {tS tI tB tF : TypeId}

theorem two {E : List (Nat × Value)} {t : Nat} {v x y : Value} (h : lku [(0, x), (1, y)] t = some v) (h0 : lku E 0 = some x := by rfl) (h1 : lku E 1 = some y := by rfl) : lku E t = some v := by
  by_cases e0 : t = 0
  · subst e0; exact h0.trans h
  by_cases e1 : t = 1
  · subst e1; exact h1.trans h
  simp only [lku, beq_no (Ne.symm e0), beq_no (Ne.symm e1), cond_false] at h
  cases h

end lines

/-! ## The statement -/
section stmt
variable {ρ : Type} {G : Ctx ρ}

/-- How long a text may be. -/
def fits (s : List UInt8) : Option Unit := if s.length ≤ 9223372036854775807 then some () else none
/-- What is turned in a block that is barred turns nothing else. -/
theorem Pre'.barred {E : Env} {S : Store} {a : Act} {w W1 : World} {σ : Nat → Value} {φ : Nat → Nat → Prop} {bB : Nat} (hp : Pre' G E S a w σ φ) (hX : G.X bB) (hX0 : bB < G.w0.heap.size → G.X0 bB) (hm : ∀ o, w.heap[bB]? = some o → plainO (some o) = true) (hf : Fr w (fun b => b = bB) W1) :
    Pre' G E S a W1 σ φ ∧ ∀ b, Dof G.X φ w S b → Dof G.X φ W1 S b ∧ W1.heap[b]? = w.heap[b]? := by
  have hs := hf.size
  have hD : ∀ b, Dof G.X φ w S b → Dof G.X φ W1 S b ∧ W1.heap[b]? = w.heap[b]? := fun b ⟨h1, h2, h3⟩ => ⟨⟨by omega, h2, h3⟩, hf.block b h1 fun e => h2 (e ▸ hX)⟩
  have hF : ∀ b, foot φ S b → W1.heap[b]? = w.heap[b]? := fun b h => hf.block b (hp.inv.lt b h).1 fun e => (hp.inv.lt b h).2 (e ▸ hX)
  refine ⟨⟨hp.defers.keep fun b hb hpl => hf.block b hb fun e => ?_, hp.size, fun t p ht => let ⟨u, hu, hr⟩ := hp.env t p ht; ⟨u, hu, hr.mono hD⟩, ?_, ?_, hp.agree, hp.new⟩, hD⟩
  · subst e
    have : w.heap[b]? = some w.heap[b] := Array.getElem?_eq_getElem hb
    rw [this] at hpl
    rw [hm _ this] at hpl; cases hpl
  · refine ⟨hp.inv.nodup, fun b hb => by have := hp.inv.xlt b hb; omega, fun b h => ⟨by have := (hp.inv.lt b h).1; omega, (hp.inv.lt b h).2⟩, hp.inv.disj, fun n k hm => ?_⟩
    exact (hp.inv.ok n k hm).next hD (fun b hb => hF b ⟨n, k, hm, hb⟩) fun _ _ _ _ _ _ _ _ => rfl
  · refine ⟨hf.os.trans hp.fr.os, hf.tape.trans hp.fr.tape, hf.output.trans hp.fr.output, by have := hp.fr.size; omega, fun b hb hx => ?_⟩
    have := hp.fr.size
    rw [hf.block b (by omega) fun e => hx (e ▸ hX0 (e ▸ hb))]
    exact hp.fr.block b hb hx

end stmt
/-! ## strings.Lines itself -/
section
variable {ρ : Type} {G : Ctx ρ} {m : Option ρ} {K : List (Kont ρ)} {E : Env} {S : Store} {all : Array Oper}
end
end Go.Pw
