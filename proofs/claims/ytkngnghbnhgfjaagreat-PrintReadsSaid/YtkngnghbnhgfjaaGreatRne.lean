/- A letter's text, and a look into a map that tells whether something is there. No program is named here. -/
import Derived.Test.YtkngnghbnhgfjaaGreatNst
namespace Go.Pw
open Go Go.MapKept

def encRune (n : Int) : List UInt8 := (Utf8.encode n).data.toList

section
variable {ρ : Type} {G : Ctx ρ} {m : Option ρ} {K : List (Kont ρ)} {E : Env} {S : Store} {all : Array Oper}

theorem does_rune {T : Tab G.P} {o : Oper} {src dst : TypeId} {x : Operand} {kk : IntKind} {n : Int} (ho : o.op = .convert src dst x) (hx : ev E x = some (.v (.int kk n)))
    (hs : lku T.bases src = some (.int kk)) (ht : lku T.bases dst = some .string) {σ : Nat → Value} {φ : Nat → Nat → Prop} {w : World} {a : Act} (hp : Pre' G E S a w σ φ) : OpDoes G S o σ φ a w (.v (.string ⟨⟨encRune n⟩⟩)) := by
  obtain ⟨hxv, _⟩ := (ev_ok hp.env hx).flat_inv
  have e : (⟨⟨encRune n⟩⟩ : ByteArray) = Utf8.encode n := rfl
  unfold OpDoes
  have hrun : (execOp a.eval o).run G.P w = .ok (.value (.string (Utf8.encode n))) w := by
    simp [execOp, ho, hxv, convert, run_underlying (base_int (T.hbases _ (lku_mem hs))), run_underlying (base_string (T.hbases _ (lku_mem ht))), Conv.intToString, Result.andThen]
  rw [hrun, e]
  exact ⟨rfl, .d (.v rfl)⟩
theorem po_rune {T : Tab G.P} {o : Oper} {rest : List Oper} {src dst : TypeId} {x : Operand} {kk : IntKind} {n : Int} {d : Nat} (ho : o.op = .convert src dst x) (hg : gE all E o = some true) (hx : ev E x = some (.v (.int kk n)))
    (hs : lku T.bases src = some (.int kk)) (ht : lku T.bases dst = some .string) (hd : o.dst = some d) (hlt : Nat.blt d G.fn.ntmps = true) (k : PO G m all rest K ((d, .v (.string ⟨⟨encRune n⟩⟩)) :: E) S) : PO G m all (o :: rest) K E S :=
  po_does hg (fun _ _ _ _ hp => does_rune (T := T) ho hx hs ht hp) hd hlt k
theorem app_rows {α β : Type} (f : α → β) (l : List α) (x : α) : l.map f ++ [f x] = (l ++ [x]).map f := by simp
end
end Go.Pw
