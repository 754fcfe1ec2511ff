/- Texts as bytes: lines, cuts at a sign, numbers as text and back. No program is named here. -/
import Derived.Test.YtkngnghbnhgfjaaGreatDoorPlain
import Derived.Test.YtkngnghbnhgfjaaGreatDoorLine
import Derived.Lib.ItoaNum
import Derived.Lib.AtoiAll
namespace Go.Pw
open Go

/-! ## Lines -/
theorem linesOf_line : ∀ {l r : List UInt8}, (10 : UInt8) ∉ l → linesOf (l ++ 10 :: r) = (l ++ [10]) :: linesOf r
  | [], r, _ => by simp [linesOf]
  | b :: l, r, h => by
    have hb : ¬ b = 10 := fun e => h (by simp [e])
    have ih := linesOf_line (l := l) (r := r) (fun hm => h (List.mem_cons_of_mem _ hm))
    rw [List.cons_append, linesOf, if_neg hb, ih]
    rfl
theorem linesOf_flat : ∀ (s : List UInt8), (linesOf s).flatten = s
  | [] => rfl
  | b :: r => by
    have ih := linesOf_flat r
    rw [linesOf]
    by_cases hb : b = 10
    · simp [hb, ih]
    · rw [if_neg hb]
      cases h : linesOf r with
      | nil => rw [h] at ih; simp at ih; simp [← ih]
      | cons l ls => rw [h] at ih; simp at ih ⊢; exact ih
/-- Each line but the last ends with a line feed, and has no other one. -/
theorem linesOf_ends : ∀ (s l : List UInt8), l ∈ linesOf s → (∃ t, l = t ++ [10] ∧ (10 : UInt8) ∉ t) ∨ (l ≠ [] ∧ (10 : UInt8) ∉ l)
  | [], l, h => by simp [linesOf] at h
  | b :: r, l, h => by
    rw [linesOf] at h
    by_cases hb : b = 10
    · simp only [hb, if_true, List.mem_cons] at h
      rcases h with rfl | h
      · exact .inl ⟨[], rfl, by simp⟩
      · exact linesOf_ends r l h
    · rw [if_neg hb] at h
      have ih := linesOf_ends r
      cases hr : linesOf r with
      | nil =>
        rw [hr] at h; simp at h; subst h
        exact .inr ⟨by simp, by simpa using Ne.symm hb⟩
      | cons l0 ls =>
        rw [hr] at h ih
        simp only [List.mem_cons] at h
        rcases h with rfl | h
        · rcases ih l0 (by simp) with ⟨t, rfl, ht⟩ | ⟨_, ht⟩
          · exact .inl ⟨b :: t, rfl, by simp [Ne.symm hb, ht]⟩
          · exact .inr ⟨by simp, by simp [Ne.symm hb, ht]⟩
        · exact ih l (by simp [h])
theorem linesOf_len (s : List UInt8) : (linesOf s).length ≤ s.length := by
  induction s with
  | nil => simp [linesOf]
  | cons b r ih =>
    rw [linesOf]
    by_cases hb : b = 10
    · simp [hb, ih]
    · rw [if_neg hb]
      cases h : linesOf r with
      | nil => simp
      | cons l ls => rw [h] at ih; simp at ih ⊢; omega
theorem len_flatten {α : Type} : ∀ {L : List (List α)} {l : List α}, l ∈ L → l.length ≤ L.flatten.length
  | a :: L, l, h => by
    rcases List.mem_cons.1 h with rfl | h
    · simp
    · have := len_flatten h
      rw [List.flatten_cons, List.length_append]; omega
theorem linesOf_mem_len {s l : List UInt8} (h : l ∈ linesOf s) : l.length ≤ s.length := by
  have := len_flatten h
  rwa [linesOf_flat] at this

/-! ## Where a sign stands -/
theorem index_at : ∀ {w r : List UInt8} {c : UInt8}, c ∉ w → Lib.indexByte (w ++ c :: r) c = (w.length : Nat)
  | [], r, c, _ => by simp [Lib.indexByte]
  | b :: w, r, c, h => by
    have hb : ¬ b = c := fun e => h (by simp [e])
    have ih := index_at (w := w) (r := r) (c := c) (fun hm => h (List.mem_cons_of_mem _ hm))
    rw [List.cons_append, indexByte_cons, if_neg hb, ih, if_neg (by omega)]
    simp
theorem index_no {w : List UInt8} {c : UInt8} (h : c ∉ w) : Lib.indexByte w c = -1 := by
  have := indexByte_iff' w c
  by_cases h0 : 0 ≤ Lib.indexByte w c
  · exact absurd (this.1.1 h0) h
  · omega
/-- A text that has a sign, at its first one. -/
theorem split_at {s : List UInt8} {c : UInt8} (h : c ∈ s) : ∃ w r, s = w ++ c :: r ∧ c ∉ w := by
  induction s with
  | nil => cases h
  | cons b s ih =>
    by_cases hb : b = c
    · exact ⟨[], s, by simp [hb], by simp⟩
    · obtain ⟨w, r, rfl, hw⟩ := ih (by simpa [Ne.symm hb] using h)
      exact ⟨b :: w, r, rfl, by simp [Ne.symm hb, hw]⟩

/-! ## Numbers as text -/
theorem parse_app : ∀ (l r : List UInt8) (acc : Nat), Lib.parseUint10 acc (l ++ r) = match Lib.parseUint10 acc l with
    | .ok a => Lib.parseUint10 a r
    | e => e
  | [], r, acc => by simp [Lib.parseUint10]
  | c :: l, r, acc => by
    simp only [List.cons_append, Lib.parseUint10]
    have ih := parse_app l r
    split
    · split
      · rfl
      · split
        · rfl
        · exact ih _
    · rfl
theorem dig_nat {d : Nat} (h : d < 10) : (UInt8.ofNat (48 + d)).toNat = 48 + d := by simp; omega
theorem parse_digits : ∀ (u : Nat), u < 18446744073709551616 → Lib.parseUint10 0 (Lib.decDigits u) = .ok u := by
  intro u
  induction u using Nat.strongRecOn with
  | ind u ih =>
    intro hu
    rw [Lib.decDigits]
    by_cases h : u < 10
    · rw [dif_pos h]
      simp only [Lib.parseUint10, dig_nat h]
      rw [if_pos (by omega), if_neg (by omega), if_neg (by omega)]
      simp
    · rw [dif_neg h, parse_app, ih (u / 10) (by omega) (by omega)]
      have hd : u % 10 < 10 := Nat.mod_lt _ (by omega)
      simp only [Lib.parseUint10, dig_nat hd]
      rw [if_pos (by omega), if_neg (by omega), if_neg (by omega)]
      congr 1
      omega
theorem digits_ne (u : Nat) : Lib.decDigits u ≠ [] := by
  rw [Lib.decDigits]; split <;> simp
theorem digits_mem : ∀ (u : Nat) (b : UInt8), b ∈ Lib.decDigits u → 48 ≤ b.toNat ∧ b.toNat ≤ 57 := by
  intro u
  induction u using Nat.strongRecOn with
  | ind u ih =>
    intro b hb
    rw [Lib.decDigits] at hb
    by_cases h : u < 10
    · rw [dif_pos h, List.mem_singleton] at hb
      subst hb
      rw [dig_nat h]; omega
    · rw [dif_neg h] at hb
      simp only [List.mem_append, List.mem_singleton] at hb
      rcases hb with hb | rfl
      · exact ih _ (by omega) b hb
      · have hd : u % 10 < 10 := Nat.mod_lt _ (by omega)
        rw [dig_nat hd]; omega
theorem itoa_mem {n : Int} {b : UInt8} (h : b ∈ Lib.itoa n) : b = 45 ∨ 48 ≤ b.toNat ∧ b.toNat ≤ 57 := by
  unfold Lib.itoa at h
  split at h
  · simp only [List.mem_cons] at h
    rcases h with h | h
    · exact .inl h
    · exact .inr (digits_mem _ _ h)
  · exact .inr (digits_mem _ _ h)
theorem itoa_ne (n : Int) : Lib.itoa n ≠ [] := by
  unfold Lib.itoa
  split
  · simp
  · exact digits_ne _
theorem itoa_no {n : Int} {c : UInt8} (h : c.toNat < 45 ∨ c.toNat = 46 ∨ c.toNat = 47 ∨ 57 < c.toNat) : c ∉ Lib.itoa n := fun hm => by
  rcases itoa_mem hm with h' | h'
  · subst h'; simp at h
  · omega
theorem atoi_itoa {n : Int} (h1 : -9223372036854775808 ≤ n) (h2 : n ≤ 9223372036854775807) : Lib.atoiAll (Lib.itoa n) = .ok n := by
  unfold Lib.itoa
  by_cases h : n < 0
  · rw [if_pos h]
    have hm : Lib.parseMag (Lib.decDigits n.natAbs) = .ok n.natAbs := by
      unfold Lib.parseMag; rw [if_neg (digits_ne _), parse_digits _ (by omega)]
    simp only [Lib.atoiAll]
    rw [if_pos (by right; rfl), hm]
    simp only []
    rw [if_neg (by intro hh; exact hh.1 rfl), if_neg (by omega), if_pos (by rfl)]
    congr 1
    omega
  · rw [if_neg h]
    cases hd : Lib.decDigits n.toNat with
    | nil => exact absurd hd (digits_ne _)
    | cons c r =>
      have hc := digits_mem n.toNat c (by rw [hd]; simp)
      have hm : Lib.parseMag (c :: r) = .ok n.toNat := by
        unfold Lib.parseMag; rw [if_neg (by simp), ← hd, parse_digits _ (by omega)]
      simp only [Lib.atoiAll]
      rw [if_neg (by omega), hm]
      simp only []
      rw [if_neg (by omega), if_neg (by omega), if_neg (by omega)]
      congr 1
      omega
/-- A text that is a number's has no digits to spare: ten bytes for each three. -/
theorem digits_len (u : Nat) : u < 10 ^ 20 → (Lib.decDigits u).length ≤ 20 := by
  have key : ∀ (k u : Nat), u < 10 ^ (k + 1) → (Lib.decDigits u).length ≤ k + 1 := by
    intro k
    induction k with
    | zero => intro u h; rw [Lib.decDigits, dif_pos (by simpa using h)]; simp
    | succ k ih =>
      intro u h
      rw [Lib.decDigits]
      split
      · simp
      · have := ih (u / 10) (by rw [Nat.pow_succ] at h; omega)
        simp; omega
  exact key 19 u
theorem itoa_len {n : Int} (h1 : -9223372036854775808 ≤ n) (h2 : n ≤ 9223372036854775807) : (Lib.itoa n).length ≤ 21 := by
  unfold Lib.itoa
  split
  · have := digits_len n.natAbs (by omega)
    simp; omega
  · have := digits_len n.toNat (by omega)
    omega

/-! ## What atoi hands back is a number -/
theorem atoi_range {s : List UInt8} {v : Int} (h : Lib.atoiAll s = .ok v) : -9223372036854775808 ≤ v ∧ v ≤ 9223372036854775807 := by
  unfold Lib.atoiAll at h
  split at h
  · cases h
  · simp only [] at h
    split at h
    · cases h
    · cases h
    · split at h
      · cases h
      · split at h
        · cases h
        · cases h
          split <;> omega
end Go.Pw
