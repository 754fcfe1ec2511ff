/- Texts as bytes: texts in quotes and back; numbers without a digit to spare; pieces of a text behind a place. No program is named here. -/
import Derived.Test.YtkngnghbnhgfjaaGreatDoorTxt1
import Derived.Test.YtkngnghbnhgfjaaGreatDoorQuo
namespace Go.Pw
open Go

/-! ## Bytes of a buffer -/
theorem bytes_app (s t : List UInt8) : bytesOf (s ++ t) = bytesOf s ++ bytesOf t := by simp [bytesOf]
theorem bytes_one (b : UInt8) : bytesOf [b] = [(b.toNat : Int)] := rfl
theorem bytes_nil : bytesOf [] = [] := rfl
theorem bytes_len (s : List UInt8) : (bytesOf s).length = s.length := by simp [bytesOf]
theorem str_bytes (s : List UInt8) : strOf (bytesOf s) = s := by
  simp only [strOf, bytesOf, List.map_map]
  conv => rhs; rw [← List.map_id s]
  refine List.map_congr_left fun b _ => ?_
  simp
theorem byte_is (b c : UInt8) : ((b.toNat : Int) == (c.toNat : Int)) = (b == c) := by
  rw [Bool.eq_iff_iff, beq_iff_eq, beq_iff_eq, ← UInt8.toNat_inj]; omega
def inI (n : Int) : Prop := -9223372036854775808 ≤ n ∧ n ≤ 9223372036854775807
theorem i64_wrap {n : Int} (h : inI n) : IntKind.i64.wrap n = n := wrap_of (k := .i64) ⟨h.1, h.2⟩

/-! ## Behind a place -/
theorem drop_app {S t r : List UInt8} {p : Nat} (h : S.drop p = t ++ r) : S.drop (p + t.length) = r := by
  rw [← List.drop_drop, h, List.drop_left' rfl]
theorem drop_le {S t r : List UInt8} {p : Nat} (hp : p ≤ S.length) (h : S.drop p = t ++ r) : p + t.length ≤ S.length := by
  have := congrArg List.length h
  simp at this; omega
theorem chr_drop {S r : List UInt8} {p : Nat} {c : UInt8} (h : S.drop p = c :: r) : chr S (p : Int) = some (c.toNat : Int) := by
  rw [chr_nat]
  have : S[p]? = some c := by
    have h2 : (S.drop p)[0]? = some c := by rw [h]; rfl
    simpa using h2
  rw [this]; rfl
theorem drop_cons {S r : List UInt8} {p : Nat} {c : UInt8} (h : S.drop p = c :: r) : p < S.length ∧ S.drop (p + 1) = r := by
  have hl := congrArg List.length h
  simp at hl
  exact ⟨by omega, by rw [← List.drop_drop, h]; rfl⟩
theorem drop_lt {S : List UInt8} {p : Nat} (h : p < S.length) : ∃ c r, S.drop p = c :: r := ⟨S[p], S.drop (p + 1), List.drop_eq_getElem_cons h⟩

/-! ## Texts in quotes -/
/-- What stands ahead of a closing quote, and what is behind it. -/
def unq : List UInt8 → Option (List UInt8 × List UInt8)
  | [] => none
  | [b] => if b = 34 then some ([], []) else none
  | b :: c :: r => if b = 34 then some ([], c :: r) else if b = 92 then (if c = 34 ∨ c = 92 then (unq r).map fun x => (c :: x.1, x.2) else none) else (unq (c :: r)).map fun x => (b :: x.1, x.2)
theorem unq_end (r : List UInt8) : unq (34 :: r) = some ([], r) := by cases r <;> simp [unq]
theorem unq_esc {c : UInt8} (h : c = 34 ∨ c = 92) (r : List UInt8) : unq (92 :: c :: r) = (unq r).map fun x => (c :: x.1, x.2) := by simp [unq, h]
theorem unq_esc_no {c : UInt8} (h : ¬ (c = 34 ∨ c = 92)) (r : List UInt8) : unq (92 :: c :: r) = none := by simp [unq, h]
theorem unq_esc_nil : unq [92] = none := by simp [unq]
theorem unq_one {b : UInt8} (h1 : b ≠ 34) (h2 : b ≠ 92) (r : List UInt8) : unq (b :: r) = (unq r).map fun x => (b :: x.1, x.2) := by cases r <;> simp [unq, h1, h2]
theorem quo_nil : quoL [] = [] := rfl
theorem quo_cons (b : UInt8) (s : List UInt8) : quoL (b :: s) = quoB b ++ quoL s := by simp [quoL]
theorem quo_app (s t : List UInt8) : quoL (s ++ t) = quoL s ++ quoL t := by simp [quoL]
theorem quoB_yes {b : UInt8} (h : b = 34 ∨ b = 92) : quoB b = [92, b] := by rcases h with rfl | rfl <;> rfl
theorem quoB_no {b : UInt8} (h1 : b ≠ 34) (h2 : b ≠ 92) : quoB b = [b] := by simp [quoB, special, h1, h2]
theorem unq_quo : ∀ (s r : List UInt8), unq (quoL s ++ 34 :: r) = some (s, r)
  | [], r => unq_end r
  | b :: s, r => by
    have ih := unq_quo s r
    rw [quo_cons]
    by_cases h : b = 34 ∨ b = 92
    · rw [quoB_yes h]
      show unq (92 :: b :: (quoL s ++ 34 :: r)) = _
      rw [unq_esc h, ih]; rfl
    · have h1 : b ≠ 34 := fun e => h (.inl e)
      have h2 : b ≠ 92 := fun e => h (.inr e)
      rw [quoB_no h1 h2]
      show unq (b :: (quoL s ++ 34 :: r)) = _
      rw [unq_one h1 h2, ih]; rfl
theorem quo_unq : ∀ (n : Nat) (t s r : List UInt8), t.length ≤ n → unq t = some (s, r) → t = quoL s ++ 34 :: r
  | 0, t, s, r, hn, h => by
    obtain rfl := List.length_eq_zero_iff.1 (Nat.le_zero.1 hn)
    simp [unq] at h
  | n + 1, [], s, r, hn, h => by simp [unq] at h
  | n + 1, b :: t, s, r, hn, h => by
    simp only [List.length_cons] at hn
    by_cases h1 : b = 34
    · subst h1
      rw [unq_end] at h
      cases h; rfl
    · by_cases h2 : b = 92
      · subst h2
        cases t with
        | nil => rw [unq_esc_nil] at h; cases h
        | cons c t =>
          by_cases h3 : c = 34 ∨ c = 92
          · rw [unq_esc h3] at h
            cases h4 : unq t with
            | none => rw [h4] at h; cases h
            | some x =>
              rw [h4] at h
              cases h
              have := quo_unq n t x.1 x.2 (by simp at hn; omega) h4
              rw [quo_cons, quoB_yes h3]
              show 92 :: c :: t = 92 :: c :: (quoL x.1 ++ 34 :: x.2)
              rw [← this]
          · rw [unq_esc_no h3] at h; cases h
      · rw [unq_one h1 h2] at h
        cases h4 : unq t with
        | none => rw [h4] at h; cases h
        | some x =>
          rw [h4] at h
          cases h
          have := quo_unq n t x.1 x.2 (by omega) h4
          rw [quo_cons, quoB_no h1 h2]
          show b :: t = b :: (quoL x.1 ++ 34 :: x.2)
          rw [← this]
theorem quo_ge : ∀ (s : List UInt8), s.length ≤ (quoL s).length
  | [] => Nat.le_refl _
  | b :: s => by
    have := quo_ge s
    rw [quo_cons, List.length_append, List.length_cons]
    have : 1 ≤ (quoB b).length := by unfold quoB; split <;> simp
    omega
theorem quo_inj {s t : List UInt8} (h : quoL s = quoL t) : s = t := by
  have h1 := unq_quo s []
  rw [h, unq_quo t []] at h1
  cases h1; rfl
theorem quo_mem {c : UInt8} : ∀ {s : List UInt8}, c ∈ quoL s → c = 92 ∨ c ∈ s
  | [], h => by simp [quo_nil] at h
  | b :: s, h => by
    rw [quo_cons, List.mem_append] at h
    rcases h with h | h
    · unfold quoB at h
      split at h
      · simp at h; rcases h with h | h
        · exact .inl h
        · exact .inr (by simp [h])
      · simp at h; exact .inr (by simp [h])
    · rcases quo_mem h with h | h
      · exact .inl h
      · exact .inr (by simp [h])

/-! ## Digits -/
def val (l : List UInt8) : Nat := l.foldl (fun a c => a * 10 + (c.toNat - 48)) 0
def isD (c : UInt8) : Prop := 48 ≤ c.toNat ∧ c.toNat ≤ 57
instance (c : UInt8) : Decidable (isD c) := by unfold isD; infer_instance
theorem val_snoc (l : List UInt8) (c : UInt8) : val (l ++ [c]) = val l * 10 + (c.toNat - 48) := by simp [val]
theorem val_digits : ∀ (u : Nat), val (Lib.decDigits u) = u := by
  intro u
  induction u using Nat.strongRecOn with
  | ind u ih =>
    rw [Lib.decDigits]
    by_cases h : u < 10
    · rw [dif_pos h]
      simp only [val, List.foldl_cons, List.foldl_nil, dig_nat h]
      omega
    · have hd : u % 10 < 10 := Nat.mod_lt _ (by omega)
      rw [dif_neg h, val_snoc, ih (u / 10) (by omega), dig_nat hd]
      omega
/-- Digits without one to spare. -/
def Canon (l : List UInt8) : Prop := l ≠ [] ∧ (∀ c ∈ l, isD c) ∧ (l.head? = some 48 → l.length = 1)
theorem can_pos : ∀ {l : List UInt8}, (∀ c ∈ l, isD c) → l ≠ [] → l.head? ≠ some 48 → 0 < val l := by
  intro l
  have key : ∀ (l : List UInt8) (a : Nat), 0 < a → 0 < l.foldl (fun a c => a * 10 + (c.toNat - 48)) a := by
    intro l
    induction l with
    | nil => intro a h; exact h
    | cons c l ih => intro a h; exact ih _ (by show 0 < a * 10 + (c.toNat - 48); omega)
  cases l with
  | nil => intro _ h; exact absurd rfl h
  | cons c l =>
    intro h _ h2
    have hc := h c (by simp)
    have : c.toNat ≠ 48 := fun e => h2 (by simp; rw [← UInt8.toNat_inj]; exact e)
    exact key l _ (by unfold isD at hc; show 0 < 0 * 10 + (c.toNat - 48); omega)
theorem snoc_cases {α : Type} (l : List α) : l = [] ∨ ∃ i x, l = i ++ [x] := by
  by_cases h : l = []
  · exact .inl h
  · exact .inr ⟨_, _, (List.dropLast_concat_getLast h).symm⟩
theorem can_back : ∀ (n : Nat) (l : List UInt8), l.length ≤ n → Canon l → Lib.decDigits (val l) = l := by
  intro n
  induction n with
  | zero =>
    intro l hl h
    exact absurd (List.length_eq_zero_iff.1 (Nat.le_zero.1 hl)) h.1
  | succ n ih =>
    intro l hl ⟨h1, h2, h3⟩
    rcases snoc_cases l with rfl | ⟨i, c, rfl⟩
    · exact absurd rfl h1
    · have hc := h2 c (by simp)
      unfold isD at hc
      rw [val_snoc]
      by_cases hi : i = []
      · subst hi
        rw [Lib.decDigits, dif_pos (by show 0 * 10 + _ < 10; omega)]
        show [UInt8.ofNat (48 + (0 * 10 + (c.toNat - 48)))] = [c]
        congr 1
        rw [← UInt8.toNat_inj]
        simp; omega
      · have hh : i.head? ≠ some 48 := fun e => by
          have : (i ++ [c]).length = 1 := h3 (by rw [List.head?_append, e]; rfl)
          simp at this
          exact hi this
        have hv := can_pos (fun c hc => h2 c (by simp [hc])) hi hh
        have := ih i (by simp at hl; omega) ⟨hi, fun c hc => h2 c (by simp [hc]), fun e => absurd e hh⟩
        rw [Lib.decDigits, dif_neg (by omega), show (val i * 10 + (c.toNat - 48)) / 10 = val i from by omega, this, show (val i * 10 + (c.toNat - 48)) % 10 = c.toNat - 48 from by omega]
        congr 2
        rw [← UInt8.toNat_inj]
        simp; omega
theorem digits_head : ∀ (u : Nat), 0 < u → (Lib.decDigits u).head? ≠ some 48 := by
  intro u
  induction u using Nat.strongRecOn with
  | ind u ih =>
    intro hu
    rw [Lib.decDigits]
    by_cases h : u < 10
    · rw [dif_pos h]
      intro e
      have : UInt8.ofNat (48 + u) = 48 := by simpa using e
      have := congrArg UInt8.toNat this
      rw [dig_nat h] at this
      have e48 : (48 : UInt8).toNat = 48 := rfl
      omega
    · rw [dif_neg h, List.head?_append]
      have := ih (u / 10) (by omega) (by omega)
      cases hd : (Lib.decDigits (u / 10)).head? with
      | none => exact absurd (List.head?_eq_none_iff.1 hd) (digits_ne _)
      | some x => rw [hd] at this; simpa using this
theorem can_digits (u : Nat) : Canon (Lib.decDigits u) := by
  refine ⟨digits_ne u, fun c hc => digits_mem u c hc, fun h => ?_⟩
  by_cases hu : 0 < u
  · exact absurd h (digits_head u hu)
  · have : u = 0 := by omega
    subst this
    rw [Lib.decDigits]; rfl
theorem digits_len' : ∀ (k u : Nat), u < 10 ^ (k + 1) → (Lib.decDigits u).length ≤ k + 1 := by
  intro k
  induction k with
  | zero => intro u h; rw [Lib.decDigits, dif_pos (by simpa using h)]; simp
  | succ k ih =>
    intro u h
    rw [Lib.decDigits]
    split
    · simp
    · have := ih (u / 10) (by rw [Nat.pow_succ] at h; omega)
      simp; omega
theorem val_lt : ∀ (n : Nat) (l : List UInt8), l.length ≤ n → (∀ c ∈ l, isD c) → val l < 10 ^ n
  | 0, l, h, _ => by obtain rfl := List.length_eq_zero_iff.1 (Nat.le_zero.1 h); simp [val]
  | n + 1, l, h, hd => by
    rcases snoc_cases l with rfl | ⟨i, c, rfl⟩
    · simp [val, Nat.pow_pos]
    · have := val_lt n i (by simp at h; omega) (fun c hc => hd c (by simp [hc]))
      have hc := hd c (by simp)
      unfold isD at hc
      rw [val_snoc, Nat.pow_succ]; omega
end Go.Pw
