/- A letter's text, and a look into a map that tells whether something is there. No program is named here. -/
import Derived.Test.YtkngnghbnhgfjaaGreatNst
namespace Go.Pw
open Go Go.MapKept

def encRune (n : Int) : List UInt8 := (Utf8.encode n).data.toList

section
variable {ρ : Type} {G : Ctx ρ} {m : Option ρ} {K : List (Kont ρ)} {E : Env} {S : Store} {all : Array Oper}

theorem does_rune {T : Tab G.P} {o : Oper} {src dst : TypeId} {x : Operand} {kk : IntKind} {n : Int} (ho : o.op = .convert src dst x) (hx : ev E x = some (.v (.int kk n)))
    (hs : lku T.bases src = some (.int kk)) (ht : lku T.bases dst = some .string) {σ : Nat → Value} {φ : Nat → Nat → Prop} {w : World} {a : Act} (hp : Pre' G E S a w σ φ) : OpDoes G S o σ φ a w (.v (.string ⟨⟨encRune n⟩⟩)) := by
  obtain ⟨hxv, _⟩ := (ev_ok hp.env hx).flat_inv
  have e : (⟨⟨encRune n⟩⟩ : ByteArray) = Utf8.encode n := rfl
  unfold OpDoes
  have hrun : (execOp a.eval o).run G.P w = .ok (.value (.string (Utf8.encode n))) w := by
    simp [execOp, ho, hxv, convert, run_underlying (base_int (T.hbases _ (lku_mem hs))), run_underlying (base_string (T.hbases _ (lku_mem ht))), Conv.intToString, Result.andThen]
  rw [hrun, e]
  exact ⟨rfl, .d (.v rfl)⟩
theorem po_rune {T : Tab G.P} {o : Oper} {rest : List Oper} {src dst : TypeId} {x : Operand} {kk : IntKind} {n : Int} {d : Nat} (ho : o.op = .convert src dst x) (hg : gE all E o = some true) (hx : ev E x = some (.v (.int kk n)))
    (hs : lku T.bases src = some (.int kk)) (ht : lku T.bases dst = some .string) (hd : o.dst = some d) (hlt : Nat.blt d G.fn.ntmps = true) (k : PO G m all rest K ((d, .v (.string ⟨⟨encRune n⟩⟩)) :: E) S) : PO G m all (o :: rest) K E S :=
  po_does hg (fun _ _ _ _ hp => does_rune (T := T) ho hx hs ht hp) hd hlt k
def asVs : List PV → Option (List Value)
  | [] => some []
  | .v u :: l => if flat u then (asVs l).map (u :: ·) else none
  | _ :: _ => none
def asV : PV → Option Value
  | .v u => if flat u then some u else none
  | .agg cs => (asVs cs).map fun l => .agg ⟨l⟩
  | _ => none
theorem asVs_RD {w : World} {D : Nat → Prop} : ∀ {cs : List PV} {l : List Value}, asVs cs = some l → cs.length = l.length ∧ ∀ (i : Nat) (c : PV) (u : Value), cs[i]? = some c → l[i]? = some u → RD w D c u
  | [], l, h => by
    cases h
    exact ⟨rfl, fun i c u hc => by simp at hc⟩
  | p :: cs, l, h => by
    cases p <;> simp only [asVs] at h <;> try cases h
    rename_i u
    by_cases hf : flat u = true
    · rw [if_pos hf] at h
      obtain ⟨l', h1, rfl⟩ := Option.map_eq_some_iff.1 h
      obtain ⟨h2, h3⟩ := asVs_RD (w := w) (D := D) h1
      refine ⟨by simp [h2], fun i c u' hc hu => ?_⟩
      cases i with
      | zero => simp at hc hu; subst hc hu; exact .v hf
      | succ i => exact h3 i c u' (by simpa using hc) (by simpa using hu)
    · rw [if_neg hf] at h; cases h
theorem asV_RD {w : World} {D : Nat → Prop} {p : PV} {u : Value} (h : asV p = some u) : RD w D p u := by
  cases p <;> simp only [asV] at h <;> try cases h
  · rename_i x
    by_cases hf : flat x = true
    · rw [if_pos hf] at h; cases h; exact .v hf
    · rw [if_neg hf] at h; cases h
  · rename_i cs
    obtain ⟨l, h1, rfl⟩ := Option.map_eq_some_iff.1 h
    obtain ⟨h2, h3⟩ := asVs_RD (w := w) (D := D) h1
    exact .agg (by simpa using h2) fun i c u hc hu => h3 i c u hc (by simpa using hu)

def mhas {κ ν : Type} [DecidableEq κ] (l : List (κ × ν)) (k : κ) : Bool := (mfind l k).isSome

theorem does_lookup2 {κ ν : Type} [DecidableEq κ] {T : Tab G.P} {o : Oper} {dd : TypeDesc} {key : κ → Value} (Q : KeyEnc dd key) (val : ν → PV) (l : List (κ × ν)) (k : κ) (z : ν) {t kt et : TypeId} {x ix : Operand} {n : Nat} {zv : Value} (ho : o.op = .lookup t x ix true) (hm : G.P.underlying t = some (.map kt et)) (hk : G.P.underlying kt = some dd)
    (hx : ev E x = some (.own n)) (hi : ev E ix = some (.v (key k))) (hb : lkS S n = some (.mp (l.map fun p => (key p.1, val p.2)))) (hz : lku T.zeros et = some zv) (hzv : asV (val z) = some zv) {σ : Nat → Value} {φ : Nat → Nat → Prop} {w : World} {a : Act} (hp : Pre' G E S a w σ φ) : OpDoes G S o σ φ a w (.tup [val (mget l k z), .v (.bool (mhas l k))]) := by
  have hmem := lkS_mem hb
  obtain ⟨b, es, cl, g1, g2, g3, g4, g5⟩ := hp.inv.ok n _ hmem
  have hxv := own_map (ev_ok hp.env hx) g1
  obtain ⟨hiv, _⟩ := (ev_ok hp.env hi).flat_inv
  have hf := findNow_mfind Q k l es.toList 0 (by simpa using g4) fun j e x' h1 h2 => (g5 j e _ (by simpa using h1) (by rw [List.getElem?_map, h2]; rfl)).1
  have hz' := T.hzeros _ (lku_mem hz)
  have hzr : (zeroValue et).run G.P w = .ok zv w := by
    obtain ⟨inf, hinf, hzi⟩ := Option.bind_eq_some_iff.1 hz'
    simp [zeroValue, typeInfo, hinf, hzi]
  have hck := run_checkKey (P := G.P) (w := w) hk (Q.isKey k) es.isEmpty 9999
  have hrun : ∃ u, (execOp a.eval o).run G.P w = .ok (.value (.tuple #[u, .bool (mhas l k)])) w ∧ RD w (Dof G.X φ w S) (val (mget l k z)) u := by
    unfold mget mhas
    cases hj : mfind l k with
    | none =>
      rw [hj] at hf
      have hfk := run_findKey (w := w) hk hf
      refine ⟨zv, ?_, by simp only; exact asV_RD hzv⟩
      simp [execOp, ho, hxv, hiv, Instr.lookup, run_underlying hm, MapKept.run_getObj_map g3, hck, hfk, hzr, Result.andThen]
    | some j =>
      rw [hj] at hf
      obtain ⟨v, hv⟩ := mfind_lt hj
      have hjl : j < es.size := by rw [g4, List.length_map]; exact (List.getElem?_eq_some_iff.1 hv).1
      have he : es[j]? = some es[j] := Array.getElem?_eq_getElem hjl
      simp only [show es.toList[j]? = some es[j] by simp, Option.map_some, Nat.zero_add] at hf
      have hfk := run_findKey (w := w) hk hf
      refine ⟨es[j].val, ?_, ?_⟩
      · simp [execOp, ho, hxv, hiv, Instr.lookup, run_underlying hm, MapKept.run_getObj_map g3, hck, hfk, Result.andThen]
      · simp only [hv, Option.elim_some]
        exact (g5 j _ _ he (by rw [List.getElem?_map, hv]; rfl)).2
  obtain ⟨u, h1, h2⟩ := hrun
  unfold OpDoes
  rw [h1]
  refine ⟨rfl, .tup rfl fun i c u' hc hu => ?_⟩
  match i, hc, hu with
  | 0, hc, hu => simp at hc hu; subst hc hu; exact .d h2
  | 1, hc, hu => simp at hc hu; subst hc hu; exact .d (.v rfl)
theorem po_lookup2 {κ ν : Type} [DecidableEq κ] {T : Tab G.P} {o : Oper} {rest : List Oper} {dd : TypeDesc} {key : κ → Value} (Q : KeyEnc dd key) (val : ν → PV) (l : List (κ × ν)) (k : κ) (z : ν) {t kt et : TypeId} {x ix : Operand} {n d : Nat} {zv : Value} (hm : G.P.underlying t = some (.map kt et)) (hk : G.P.underlying kt = some dd) (ho : o.op = .lookup t x ix true)
    (hg : gE all E o = some true) (hx : ev E x = some (.own n)) (hi : ev E ix = some (.v (key k))) (hb : lkS S n = some (.mp (l.map fun p => (key p.1, val p.2)))) (hz : lku T.zeros et = some zv) (hzv : asV (val z) = some zv) (hd : o.dst = some d) (hlt : Nat.blt d G.fn.ntmps = true)
    (kk : PO G m all rest K ((d, .tup [val (mget l k z), .v (.bool (mhas l k))]) :: E) S) : PO G m all (o :: rest) K E S :=
  po_does hg (fun _ _ _ _ hp => does_lookup2 (T := T) Q val l k z ho hm hk hx hi hb hz hzv hp) hd hlt kk

theorem app_rows {α β : Type} (f : α → β) (l : List α) (x : α) : l.map f ++ [f x] = (l ++ [x]).map f := by simp
end
end Go.Pw
