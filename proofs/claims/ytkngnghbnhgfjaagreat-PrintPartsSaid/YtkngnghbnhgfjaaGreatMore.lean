/- The least and the greatest of two numbers; functions that read nothing. No program is named here. -/
import Derived.Test.YtkngnghbnhgfjaaGreatEq
namespace Go.Pw
open Go

section
variable {ρ : Type} {G : Ctx ρ} {m : Option ρ} {K : List (Kont ρ)} {E : Env} {S : Store} {all : Array Oper}

theorem does_min {o : Oper} {args : Array Operand} {tys : Array TypeId} {x y : Operand} {k : IntKind} {a b : Int} (ho : o.op = .call ⟨.builtin .min, args, tys⟩) (h1 : args.toList = [x, y]) (hx : ev E x = some (.v (.int k a))) (hy : ev E y = some (.v (.int k b)))
    {σ : Nat → Value} {φ : Nat → Nat → Prop} {w : World} {ac : Act} (hp : Pre' G E S ac w σ φ) : OpDoes G S o σ φ ac w (.v (.int k (min a b))) := by
  obtain ⟨e1, _⟩ := (ev_ok hp.env hx).flat_inv
  obtain ⟨e2, _⟩ := (ev_ok hp.env hy).flat_inv
  obtain ⟨args⟩ := args
  simp only at h1
  subst h1
  unfold OpDoes
  have : (execOp ac.eval o).run G.P w = .ok (.value (.int k (if b < a then b else a))) w := by
    simp [execOp, ho, resolve, invoke, builtin, Builtin.min_, Builtin.min2, e1, e2]
  rw [this]
  refine ⟨rfl, ?_⟩
  have : (if b < a then b else a) = min a b := by omega
  rw [this]
  exact .d (.v rfl)
theorem does_max {o : Oper} {args : Array Operand} {tys : Array TypeId} {x y : Operand} {k : IntKind} {a b : Int} (ho : o.op = .call ⟨.builtin .max, args, tys⟩) (h1 : args.toList = [x, y]) (hx : ev E x = some (.v (.int k a))) (hy : ev E y = some (.v (.int k b)))
    {σ : Nat → Value} {φ : Nat → Nat → Prop} {w : World} {ac : Act} (hp : Pre' G E S ac w σ φ) : OpDoes G S o σ φ ac w (.v (.int k (max a b))) := by
  obtain ⟨e1, _⟩ := (ev_ok hp.env hx).flat_inv
  obtain ⟨e2, _⟩ := (ev_ok hp.env hy).flat_inv
  obtain ⟨args⟩ := args
  simp only at h1
  subst h1
  unfold OpDoes
  have : (execOp ac.eval o).run G.P w = .ok (.value (.int k (if b > a then b else a))) w := by
    simp [execOp, ho, resolve, invoke, builtin, Builtin.max_, Builtin.max2, e1, e2]
  rw [this]
  refine ⟨rfl, ?_⟩
  have : (if b > a then b else a) = max a b := by omega
  rw [this]
  exact .d (.v rfl)
theorem po_min {o : Oper} {rest : List Oper} {args : Array Operand} {tys : Array TypeId} {x y : Operand} {k : IntKind} {a b : Int} {d : Nat} (ho : o.op = .call ⟨.builtin .min, args, tys⟩) (hg : gE all E o = some true) (h1 : args.toList = [x, y]) (hx : ev E x = some (.v (.int k a))) (hy : ev E y = some (.v (.int k b)))
    (hd : o.dst = some d) (hlt : Nat.blt d G.fn.ntmps = true) (kk : PO G m all rest K ((d, .v (.int k (min a b))) :: E) S) : PO G m all (o :: rest) K E S := po_does hg (fun _ _ _ _ hp => does_min ho h1 hx hy hp) hd hlt kk
theorem po_max {o : Oper} {rest : List Oper} {args : Array Operand} {tys : Array TypeId} {x y : Operand} {k : IntKind} {a b : Int} {d : Nat} (ho : o.op = .call ⟨.builtin .max, args, tys⟩) (hg : gE all E o = some true) (h1 : args.toList = [x, y]) (hx : ev E x = some (.v (.int k a))) (hy : ev E y = some (.v (.int k b)))
    (hd : o.dst = some d) (hlt : Nat.blt d G.fn.ntmps = true) (kk : PO G m all rest K ((d, .v (.int k (max a b))) :: E) S) : PO G m all (o :: rest) K E S := po_does hg (fun _ _ _ _ hp => does_max ho h1 hx hy hp) hd hlt kk
end

/-- What a function that leaves the world alone answers to values without memory. -/
theorem dc_pure {L : World → Prop} {P : Program} {f : FuncId} {ps : List PV} {us : List Value} {u : Value} (hps : ps = us.map PV.v) (hfl : us.all flat = true) (h : ∀ w, Calls P f ⟨us⟩ w fun e w' => e = .returned u ∧ w' = w) (hr : flat u = true) : DC L P f ps (.v u) := by
  subst hps
  intro X σ φ w vs _ hi ha
  have : vs = us := by
    apply List.ext_getElem?
    intro i
    obtain ⟨l1, l2⟩ := ha
    rw [List.length_map] at l1
    rcases Nat.lt_or_ge i us.length with hlt | hge
    · have hv : i < vs.length := by omega
      have := l2 i (.v us[i]) vs[i] (by rw [List.getElem?_map, List.getElem?_eq_getElem hlt]; rfl) (List.getElem?_eq_getElem hv)
      rw [List.getElem?_eq_getElem hlt, List.getElem?_eq_getElem hv, this.flat_inv.1]
    · rw [List.getElem?_eq_none (by omega), List.getElem?_eq_none hge]
  subst this
  refine (h w).mono ?_
  rintro e w' ⟨rfl, rfl⟩
  exact ⟨_, _, σ, φ, u, rfl, ⟨rfl, rfl⟩, hi, .d (.v hr), Fr.refl _ _, fun n hn => (by cases hn), fun b hb => (by obtain ⟨n, k, hm, _⟩ := hb; cases hm)⟩

end Go.Pw
