/- The reference's reader of marks: what each of its parts takes from a text, at any text, and at a mark's own. -/
import Derived.Test.YtoakfflcpcdbeaaDoorTal6
namespace Go.Proofs.YtoakfflcpcdbeaaDoor
open Go Go.Pw
set_option linter.unusedVariables false

/-- A reader at a place. -/
def sc (S : Bs) (p : Nat) (b : Bool) : Instarref24_Scan := ⟨S, (p : Int), b⟩
theorem drop_app {S t r : Bs} {p : Nat} (h : S.drop p = t ++ r) : S.drop (p + t.length) = r := by
  rw [← List.drop_drop, h, List.drop_left' rfl]
theorem drop_le {S t r : Bs} {p : Nat} (hp : p ≤ S.length) (h : S.drop p = t ++ r) : p + t.length ≤ S.length := by
  have := congrArg List.length h
  simp at this; omega
theorem need_bad {fu : Nat} {S t : Bs} {p : Nat} : Instarref24_need_m fu (sc S p true) t = some (sc S p true) := rfl
theorem need_m {fu : Nat} {S t : Bs} {p : Nat} (hp : p ≤ S.length) (hS : S.length ≤ 1000000) (ht : t.length ≤ 1000) :
    Instarref24_need_m fu (sc S p false) t = some (if S.drop p = t ++ S.drop (p + t.length) then sc S (p + t.length) false else sc S p true) := by
  unfold Instarref24_need_m sc
  simp only [cnd_false]
  rw [show ((S.length : Nat) : Int) - (p : Int) = ((S.length - p : Nat) : Int) from by omega, rng64 (by omega) (by omega), bnd_some]
  by_cases h : S.length - p < t.length
  · rw [show decide (((S.length - p : Nat) : Int) < ((t.length : Nat) : Int)) = true from by rw [decide_eq_true_eq]; omega, cnd_true, if_neg]
    intro e
    have := congrArg List.length e
    simp at this; omega
  · rw [show decide (((S.length - p : Nat) : Int) < ((t.length : Nat) : Int)) = false from by rw [decide_eq_false_iff_not]; omega, cnd_false, show (p : Int) + ((t.length : Nat) : Int) = ((p + t.length : Nat) : Int) from by omega, rng64 (by omega) (by omega), bnd_some, piece_nat (by omega) (by omega), bnd_some, show p + t.length - p = t.length from by omega]
    have hd : S.drop p = (S.drop p).take t.length ++ S.drop (p + t.length) := by rw [← List.drop_drop, List.take_append_drop]
    by_cases e : (S.drop p).take t.length = t
    · rw [e, beq_self_eq_true]
      simp only [Bool.not_true, cnd_false, bnd_some]
      rw [if_pos (by rw [e] at hd; exact hd)]
    · rw [beq_false_of_ne e]
      simp only [Bool.not_false, cnd_true]
      rw [if_neg]
      intro h2
      exact e (by rw [h2, List.take_left' rfl])
theorem need_yes {fu : Nat} {S t r : Bs} {p : Nat} (hp : p ≤ S.length) (hS : S.length ≤ 1000000) (ht : t.length ≤ 1000) (h : S.drop p = t ++ r) :
    Instarref24_need_m fu (sc S p false) t = some (sc S (p + t.length) false) := by
  rw [need_m hp hS ht, if_pos]
  rw [drop_app h, h]
theorem need_no {fu : Nat} {S t : Bs} {p : Nat} (hp : p ≤ S.length) (hS : S.length ≤ 1000000) (ht : t.length ≤ 1000) (h : ∀ r, S.drop p ≠ t ++ r) :
    Instarref24_need_m fu (sc S p false) t = some (sc S p true) := by
  rw [need_m hp hS ht, if_neg (h _)]
/-- What a part of the reader took: a text, from here to there. -/
structure Took (S : Bs) (p : Nat) (b : Bool) (q : Nat) (t : Bs) : Prop where
  good : b = false
  text : S.drop p = t ++ S.drop q
  len : q = p + t.length
theorem need_any {fu : Nat} {S t : Bs} {p : Nat} {b : Bool} (hp : p ≤ S.length) (hS : S.length ≤ 1000000) (ht : t.length ≤ 1000) :
    ∃ q b', Instarref24_need_m fu (sc S p b) t = some (sc S q b') ∧ q ≤ S.length ∧ p ≤ q ∧ (b' = false → Took S p b q t) := by
  cases b with
  | true => exact ⟨p, true, rfl, hp, Nat.le_refl _, fun h => by cases h⟩
  | false =>
    rw [need_m hp hS ht]
    by_cases h : S.drop p = t ++ S.drop (p + t.length)
    · rw [if_pos h]
      exact ⟨_, _, rfl, drop_le hp h, by omega, fun _ => ⟨rfl, h, rfl⟩⟩
    · rw [if_neg h]
      exact ⟨p, true, rfl, hp, Nat.le_refl _, fun h => by cases h⟩

/-! ## Digits -/
def val (l : Bs) : Nat := l.foldl (fun a c => a * 10 + (c.toNat - 48)) 0
def isD (c : UInt8) : Prop := 48 ≤ c.toNat ∧ c.toNat ≤ 57
theorem val_snoc (l : Bs) (c : UInt8) : val (l ++ [c]) = val l * 10 + (c.toNat - 48) := by simp [val]
theorem val_digits : ∀ (u : Nat), val (Lib.decDigits u) = u := by
  intro u
  induction u using Nat.strongRecOn with
  | ind u ih =>
    rw [Lib.decDigits]
    by_cases h : u < 10
    · rw [dif_pos h]
      simp only [val, List.foldl_cons, List.foldl_nil, dig_nat h]
      omega
    · have hd : u % 10 < 10 := Nat.mod_lt _ (by omega)
      rw [dif_neg h, val_snoc, ih (u / 10) (by omega), dig_nat hd]
      omega
/-- Digits without one to spare. -/
def Can (l : Bs) : Prop := l ≠ [] ∧ (∀ c ∈ l, isD c) ∧ (l.head? = some 48 → l.length = 1)
theorem can_pos : ∀ {l : Bs}, (∀ c ∈ l, isD c) → l ≠ [] → l.head? ≠ some 48 → 0 < val l := by
  intro l
  have key : ∀ (l : Bs) (a : Nat), 0 < a → 0 < l.foldl (fun a c => a * 10 + (c.toNat - 48)) a := by
    intro l
    induction l with
    | nil => intro a h; exact h
    | cons c l ih => intro a h; exact ih _ (by show 0 < a * 10 + (c.toNat - 48); omega)
  cases l with
  | nil => intro _ h; exact absurd rfl h
  | cons c l =>
    intro h _ h2
    have hc := h c (by simp)
    have : c.toNat ≠ 48 := fun e => h2 (by simp; rw [← UInt8.toNat_inj]; exact e)
    exact key l _ (by unfold isD at hc; show 0 < 0 * 10 + (c.toNat - 48); omega)
theorem snoc_cases {α : Type} (l : List α) : l = [] ∨ ∃ i x, l = i ++ [x] := by
  by_cases h : l = []
  · exact .inl h
  · exact .inr ⟨_, _, (List.dropLast_concat_getLast h).symm⟩
theorem can_back : ∀ (n : Nat) (l : Bs), l.length ≤ n → Can l → Lib.decDigits (val l) = l := by
  intro n
  induction n with
  | zero =>
    intro l hl h
    exact absurd (List.length_eq_zero_iff.1 (Nat.le_zero.1 hl)) h.1
  | succ n ih =>
    intro l hl ⟨h1, h2, h3⟩
    rcases snoc_cases l with rfl | ⟨i, c, rfl⟩
    · exact absurd rfl h1
    · have hc := h2 c (by simp)
      unfold isD at hc
      rw [val_snoc]
      by_cases hi : i = []
      · subst hi
        rw [Lib.decDigits, dif_pos (by show 0 * 10 + _ < 10; omega)]
        show [UInt8.ofNat (48 + (0 * 10 + (c.toNat - 48)))] = [c]
        congr 1
        rw [← UInt8.toNat_inj]
        simp; omega
      · have hh : i.head? ≠ some 48 := fun e => by
          have : (i ++ [c]).length = 1 := h3 (by rw [List.head?_append, e]; rfl)
          simp at this
          exact hi this
        have hv := can_pos (fun c hc => h2 c (by simp [hc])) hi hh
        have := ih i (by simp at hl; omega) ⟨hi, fun c hc => h2 c (by simp [hc]), fun e => absurd e hh⟩
        rw [Lib.decDigits, dif_neg (by omega), show (val i * 10 + (c.toNat - 48)) / 10 = val i from by omega, this, show (val i * 10 + (c.toNat - 48)) % 10 = c.toNat - 48 from by omega]
        congr 2
        rw [← UInt8.toNat_inj]
        simp; omega
theorem digits_head : ∀ (u : Nat), 0 < u → (Lib.decDigits u).head? ≠ some 48 := by
  intro u
  induction u using Nat.strongRecOn with
  | ind u ih =>
    intro hu
    rw [Lib.decDigits]
    by_cases h : u < 10
    · rw [dif_pos h]
      intro e
      have : UInt8.ofNat (48 + u) = 48 := by simpa using e
      have := congrArg UInt8.toNat this
      rw [dig_nat h] at this
      have e48 : (48 : UInt8).toNat = 48 := rfl
      omega
    · rw [dif_neg h, List.head?_append]
      have := ih (u / 10) (by omega) (by omega)
      cases hd : (Lib.decDigits (u / 10)).head? with
      | none => exact absurd (List.head?_eq_none_iff.1 hd) (digits_ne _)
      | some x => rw [hd] at this; simpa using this
theorem can_digits (u : Nat) : Can (Lib.decDigits u) := by
  refine ⟨digits_ne u, fun c hc => digits_mem u c hc, fun h => ?_⟩
  by_cases hu : 0 < u
  · exact absurd h (digits_head u hu)
  · have : u = 0 := by omega
    subst this
    rw [Lib.decDigits]; rfl
theorem val_take (l : Bs) (i : Nat) (h : ∀ c ∈ l, isD c) : val (l.take i) * 10 ^ (l.length - i) ≤ val l := by
  have key : ∀ (t : Bs) (a : Nat), a * 10 ^ t.length ≤ t.foldl (fun a c => a * 10 + (c.toNat - 48)) a := by
    intro t
    induction t with
    | nil => intro a; simp
    | cons c t ih =>
      intro a
      refine Nat.le_trans ?_ (ih (a * 10 + (c.toNat - 48)))
      rw [List.length_cons, Nat.pow_succ, Nat.mul_comm (10 ^ t.length) 10, ← Nat.mul_assoc]
      exact Nat.mul_le_mul_right _ (by omega)
  have h1 := key (l.drop i) (val (l.take i))
  rw [List.length_drop] at h1
  have h2 : val l = (l.drop i).foldl (fun a c => a * 10 + (c.toNat - 48)) (val (l.take i)) := by
    unfold val
    rw [← List.foldl_append, List.take_append_drop]
  rw [h2]; exact h1
end Go.Proofs.YtoakfflcpcdbeaaDoor
