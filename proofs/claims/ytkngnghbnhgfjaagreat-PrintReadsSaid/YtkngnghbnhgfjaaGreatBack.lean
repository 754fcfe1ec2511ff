/- Ranges over slices.Backward. No program is named here. -/
import Derived.Test.YtkngnghbnhgfjaaGreatMapp
namespace Go.Pw
open Go

/-! ## The closure of slices.Backward -/
def opB (d : Nat) (op : Op) (t : TypeId) (pos : String) (after : Array Edge) : Oper := { dst := some d, op, type := t, pos, after, guard := none }
def ed (n : Nat) : Edge := { on := n, ground := .data }
/-- What temporaries hold. -/
structure Has (N : Nat) (E : List (Nat × Value)) (a : Act) : Prop where
  size : a.tmps.size = N
  defers : a.defers = []
  has : ∀ t v, lku E t = some v → a.tmps[t]? = some v
theorem Has.eval {N : Nat} {E : List (Nat × Value)} {a : Act} (h : Has N E a) {t : Nat} {v : Value} (ht : lku E t = some v) : a.eval (.tmp t) = v := by
  have := h.has t v ht
  simp only [Act.eval, Array.getD_eq_getD_getElem?, this, Option.getD_some]
theorem Has.put {N : Nat} {E : List (Nat × Value)} {a : Act} (h : Has N E a) {d : Nat} {v : Value} (hd : d < N) : Has N ((d, v) :: E) (a.put (some d) v) := by
  refine ⟨by simp [Act.put, h.size], h.defers, fun t u ht => ?_⟩
  simp only [lku] at ht
  simp only [Act.put]
  by_cases e : d = t
  · subst e; simp at ht; subst ht; simp [h.size, hd]
  · simp only [beq_no e, cond_false] at ht
    rw [Array.getElem?_setIfInBounds_ne e]; exact h.has t u ht
theorem Has.inv {N : Nat} {E : List (Nat × Value)} {a : Act} (h : Has N E a) {σ : Nat → Value} {w : World} {D : Nat → Prop} {t : Nat} {v : Value} {p : PV} (ht : lku E t = some v) (hr : R σ w D p v) : InvE σ w D [(t, p)] a.tmps := by
  intro t' p' h'
  simp only [lk] at h'
  by_cases e : t = t'
  · subst e; simp at h'; subst h'; exact ⟨v, h.has t v ht, hr⟩
  · simp [beq_no e] at h'

section back
variable {P : Program} {T : Tab P} {g : FuncId} {fn : Func} {tS tE tI tB tF : TypeId} {α : Type} {enc : α → List PV} {enc' : α → PV} {e size by_ : Nat} {full : Bool}

theorem run_load {tS : TypeId} {a : Act} {w : World} {u v : Value} {d : Nat} {x : Operand} {t : TypeId} {ps : String} {af : Array Edge} (hx : a.eval x = v) (h : (Instr.loadAt tS v).run P w = .ok u w) : (execOp a.eval (opB d (.load tS x) t ps af)).run P w = .ok (.value u) w := by
  simp [execOp, opB, hx, h]
end back

/-! ## The statement -/
section stmt
variable {ρ : Type} {G : Ctx ρ}

/-- Behind what turned no more than the blocks' own, the outer state is as it was. -/
theorem Pre'.over {N1 : List Nat} {E : Env} {S S2 : Store} {a : Act} {w w2 : World} {σ σ2 : Nat → Value} {φ φ2 : Nat → Nat → Prop} (hp : Pre' G E S a w σ φ) (hi : Inv G.X σ2 φ2 w2 S2) (hfr : Fr w (foot φ S) w2)
    (hag : ∀ n ∈ N1, σ2 n = σ n) (hnew : ∀ b, foot φ2 S2 b → b < w.heap.size → foot φ S b) (hE : ∀ t p, lk E t = some p → ∀ n ∈ names p, n ∈ N1) (hN : ∀ n ∈ G.N0, n ∈ N1) :
    Pre' G E S2 a w2 σ2 φ2 ∧ (∀ b, Dof G.X φ w S b → Dof G.X φ2 w2 S2 b ∧ w2.heap[b]? = w.heap[b]?) := by
  have hD : ∀ b, Dof G.X φ w S b → Dof G.X φ2 w2 S2 b ∧ w2.heap[b]? = w.heap[b]? := fun b ⟨h1, h2, h3⟩ => by
    have hnf : ¬ foot φ S b := fun ⟨n, k, hm, hf⟩ => h3 n k hm hf
    have := hfr.size
    exact ⟨⟨by omega, h2, fun n k hm hf => hnf (hnew b ⟨n, k, hm, hf⟩ h1)⟩, hfr.block b h1 hnf⟩
  refine ⟨⟨hp.dk fun b h1 h2 => hfr.block b h1 h2, hp.size, fun t p ht => ?_, hi, ?_, fun n hn => (hag n (hN n hn)).trans (hp.agree n hn), fun b hf hlt => ?_⟩, hD⟩
  · obtain ⟨u, hu, hr⟩ := hp.env t p ht
    exact ⟨u, hu, (hr.mono hD).agree fun n hn => hag n (hE t p ht n hn)⟩
  · have := hp.fr.size
    have := hfr.size
    refine ⟨hfr.os.trans hp.fr.os, hfr.tape.trans hp.fr.tape, hfr.output.trans hp.fr.output, by omega, fun b hb hx => ?_⟩
    exact (hfr.block b (by omega) fun hf => hx (hp.new b hf hb)).trans (hp.fr.block b hb hx)
  · have := hp.fr.size
    exact hp.new b (hnew b hf (by omega)) hlt

/-- A block that holds no cells turns, or new ones are laid. -/
structure Turn (z : Nat) (ks : List Nat) (w w' : World) : Prop where
  os : w'.os = w.os
  tape : w'.tape = w.tape
  output : w'.output = w.output
  size : w.heap.size ≤ w'.heap.size
  old : ∀ b, b < w.heap.size → b ∉ ks → w'.heap[b]? = w.heap[b]?
  ks : ∀ b ∈ ks, z ≤ b ∧ b < w.heap.size ∧ ∃ r : Loop, w.heap[b]? = some (.loop r)

theorem Turn.marks {z y : Nat} {ks : List Nat} {w w' : World} (ht : Turn z ks w w') {ds : List Deferred} (h : DOk y ds w) : DOk y ds w' := by
  obtain ⟨bs, h1, h2, h3⟩ := h
  refine ⟨bs, h1, h2, fun b hb => ⟨(h3 b hb).1, ?_⟩⟩
  rw [ht.old b (Array.getElem?_eq_some_iff.1 (h3 b hb).2).1 fun hk => by obtain ⟨_, _, r, h⟩ := ht.ks b hk; rw [(h3 b hb).2] at h; cases h]
  exact (h3 b hb).2

end stmt

/-! ## slices.Backward -/
section
variable {ρ : Type} {G : Ctx ρ} {m : Option ρ} {K : List (Kont ρ)} {E : Env} {S : Store} {all : Array Oper}
end
end Go.Pw
