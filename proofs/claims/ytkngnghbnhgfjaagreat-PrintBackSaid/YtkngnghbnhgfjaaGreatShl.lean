/- Contracts of functions that turn nothing of what was there, out of the shelf's. No program is named here. -/
import Derived.Test.YtkngnghbnhgfjaaGreatNil
import Derived.Below
import Derived.Lib.LaidTab
import Derived.Stop.LaidErr
namespace Go.Pw
open Go

/-- Of what was there nothing has turned. -/
theorem fr_below {w w' : World} (h : RowKit.Below w.heap.size w w') : Fr w (fun _ => False) w' := ⟨h.os, h.tape, h.output, h.size, fun b hb _ => h.block b hb⟩

/-- What a function that turns nothing answers to values without memory: data in blocks that are new. -/
theorem dc_below {L : World → Prop} {P : Program} {f : FuncId} {ps : List PV} {us : List Value} {r : PV} (hps : ps = us.map PV.v) (hfl : us.all flat = true)
    (h : ∀ w, L w → Calls P f ⟨us⟩ w fun e w' => ∃ u, e = .returned u ∧ RowKit.Below w.heap.size w w' ∧ RD w' (fun b => w.heap.size ≤ b ∧ b < w'.heap.size) r u) : DC L P f ps r := by
  subst hps
  intro X σ φ w vs hl hi ha
  have : vs = us := by
    apply List.ext_getElem?
    intro i
    obtain ⟨l1, l2⟩ := ha
    rw [List.length_map] at l1
    rcases Nat.lt_or_ge i us.length with hlt | hge
    · have hv : i < vs.length := by omega
      have := l2 i (.v us[i]) vs[i] (by rw [List.getElem?_map, List.getElem?_eq_getElem hlt]; rfl) (List.getElem?_eq_getElem hv)
      rw [List.getElem?_eq_getElem hlt, List.getElem?_eq_getElem hv, this.flat_inv.1]
    · rw [List.getElem?_eq_none (by omega), List.getElem?_eq_none hge]
  subst this
  refine (h w hl.here).mono ?_
  rintro e w' ⟨u, rfl, hb, hr⟩
  have hsz := hb.size
  have hfr := fr_below hb
  have hx : ∀ b, X b → b < w.heap.size := hi.xlt
  have hn : ∀ b, ¬ foot (fun _ _ => False) ([] : Store) b := fun b ⟨n, k, hm, _⟩ => by cases hm
  have hn2 : ∀ b, ¬ foot φ ([] : Store) b := fun b ⟨n, k, hm, _⟩ => by cases hm
  have hR : RD w' (Dof X (fun _ _ => False) w' []) r u := hr.mono fun b hb => ⟨⟨hb.2, fun h => by have := hx b h; omega, fun n k hm => by cases hm⟩, rfl⟩
  have hI : Inv X σ (fun _ _ => False) w' [] := ⟨by simp, fun b hb => by have := hx b hb; omega, fun b hf => absurd hf (hn b), fun _ _ _ _ h => (by cases h), fun _ _ h => (by cases h)⟩
  exact ⟨r, [], σ, fun _ _ => False, u, rfl, ⟨rfl, rfl⟩, hI, .d hR, ⟨hfr.os, hfr.tape, hfr.output, hfr.size, fun b hb _ => hfr.block b hb fun h => h⟩, fun n hn => (by cases hn), fun b hf => absurd hf (hn b)⟩

/-! ## What start-up code has laid -/
end Go.Pw
